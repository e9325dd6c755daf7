/- Loops over a function: what stands for what while one is gone round, and the rule. No program in sight; no conditions. -/
import Derived.Test.YtmgoencdjkaobaaGreatDoorPeF
set_option linter.unusedVariables false
set_option linter.unusedSimpArgs false
namespace Go.Pe

theorem noY_cells {x y : AV} (h : x.noY = true) (hy : y ∈ x.cells) : y.noY = true := by
  cases x with
  | agg l => simp only [AV.cells] at hy; simp only [AV.noY] at h; exact noYL_iff.1 h y hy
  | _ => simp only [AV.cells, List.mem_singleton] at hy; subst hy; exact h

/-- What leads to no yield stands for the same whatever loop is gone round. -/
theorem Rep.env {X X' : Env} {w : World} {h : List AObj} {bs : List (Option Nat)} {a : AV} {v : Value} (ho : X'.own = X.own) (r : Rep X w h bs a v) (hy : a.noY = true ∨ X.y = none) : Rep X' w h bs a v := by
  induction r with
  | any v => exact .any v
  | bool b => exact .bool b
  | int k n => exact .int k n
  | flt k b => exact .flt k b
  | str s => exact .str s
  | nilp => exact .nilp
  | nilf => exact .nilf
  | nili => exact .nili
  | nils => exact .nils
  | slE sz a c => exact .slE sz a c
  | sl sz xs b off c vs hne hp hc hm hlt hX hb hsz hcell _ ih =>
    refine .sl sz xs b off c vs hne hp hc hm hlt (by rw [ho]; exact hX) hb hsz hcell fun j x k y e1 e2 => ih j x k y e1 e2 (hy.imp (fun hy => ?_) id)
    simp only [AV.noY] at hy
    exact noY_cells (noYL_iff.1 hy x (List.mem_of_getElem? e1)) (List.mem_of_getElem? e2)
  | oslN o ver ob hob hv hb => exact .oslN o ver ob hob hv hb
  | osl o ver off len c ob b C hob hv hb hlen hlc hcm hC hcap => exact .osl o ver off len c ob b C hob hv hb hlen hlc hcm hC hcap
  | oslE o ver off ob hob hv hoff a => exact .oslE o ver off ob hob hv hoff a
  | oslS o ver off len ob hob hv A n c => exact .oslS o ver off len ob hob hv A n c
  | ptr o ver i k ob b hob hv hb => exact .ptr o ver i k ob b hob hv hb
  | ptrS o ver i k ob hob hv p => exact .ptrS o ver i k ob hob hv p
  | rp xs b off vs hp hlt hX hb hone hcell _ ih =>
    refine .rp xs b off vs hp hlt (by rw [ho]; exact hX) hb hone hcell fun k y e => ih k y e (hy.imp (fun hy => ?_) id)
    simp only [AV.noY] at hy
    exact noYL_iff.1 hy y (List.mem_of_getElem? e)
  | fn f l cs hl _ ih => exact .fn f l cs hl fun j x v e1 e2 => ih j x v e1 e2 (hy.imp (fun hy => by simp only [AV.noY] at hy; exact noYL_iff.1 hy x (List.mem_of_getElem? e1)) id)
  | iface t a v _ ih => exact .iface t a v (ih (hy.imp (fun hy => by simpa only [AV.noY] using hy) id))
  | agg l cs hl _ ih => exact .agg l cs hl fun j x v e1 e2 => ih j x v e1 e2 (hy.imp (fun hy => by simp only [AV.noY] at hy; exact noYL_iff.1 hy x (List.mem_of_getElem? e1)) id)
  | tup l cs hl _ ih => exact .tup l cs hl fun j x v e1 e2 => ih j x v e1 e2 (hy.imp (fun hy => by simp only [AV.noY] at hy; exact noYL_iff.1 hy x (List.mem_of_getElem? e1)) id)
  | yld c hc =>
    rcases hy with hy | hy
    · simp [AV.noY] at hy
    · rw [hy] at hc; cases hc

/-- Where no loop is gone round nothing stands for a yield. -/
theorem Rep.noY {X : Env} {w : World} {h : List AObj} {bs : List (Option Nat)} {a : AV} {v : Value} (r : Rep X w h bs a v) (hy : X.y = none) : a.noY = true := by
  have list : ∀ {l : List AV} {cs : Array Value}, cs.size = l.length → (∀ (j : Nat) (x : AV) (v : Value), l[j]? = some x → cs[j]? = some v → x.noY = true) → noYL l = true := by
    intro l cs hl ih
    refine noYL_iff.2 fun x hx => ?_
    obtain ⟨j, hj⟩ := List.getElem?_of_mem hx
    have := (List.getElem?_eq_some_iff.1 hj).1
    exact ih j x cs[j] hj (Array.getElem?_eq_getElem (by omega))
  induction r with
  | sl sz xs b off c vs hne hp hc hm hlt hX hb hsz hcell _ ih =>
    simp only [AV.noY]
    refine noYL_iff.2 fun x hx => ?_
    obtain ⟨j, hj⟩ := List.getElem?_of_mem hx
    have hcells : ∀ y ∈ x.cells, y.noY = true := fun y hy' => by
      obtain ⟨k, hk⟩ := List.getElem?_of_mem hy'
      exact ih j x k y hj hk
    cases x with
    | agg l => simp only [AV.noY]; exact noYL_iff.2 (fun y hy' => hcells y (by simpa only [AV.cells] using hy'))
    | _ => exact hcells _ (by simp [AV.cells])
  | rp xs b off vs hp hlt hX hb hone hcell _ ih =>
    simp only [AV.noY]
    refine noYL_iff.2 fun y hy' => ?_
    obtain ⟨k, hk⟩ := List.getElem?_of_mem hy'
    exact ih k y hk
  | fn f l cs hl _ ih => simp only [AV.noY]; exact list hl fun j x v e1 e2 => ih j x v e1 e2
  | iface t a v _ ih => simp only [AV.noY]; exact ih
  | agg l cs hl _ ih => simp only [AV.noY]; exact list hl fun j x v e1 e2 => ih j x v e1 e2
  | tup l cs hl _ ih => simp only [AV.noY]; exact list hl fun j x v e1 e2 => ih j x v e1 e2
  | yld c hc => rw [hy] at hc; cases hc
  | _ => simp [AV.noY, noYL]

/-- It holds no cells. -/
def noC : Obj → Bool
  | .cells .. => false
  | _ => true
/-- A block that holds no cells may be turned. -/
theorem putObj_cell {w : World} {l : Nat} {o o' : Obj} (hl : w.heap[l]? = some o) (hc : noC o = true) {a : Addr} {v : Value} (h : w.cell? a = some v) : (w.putObj l o').cell? a = some v := by
  by_cases e : a.block = l
  · unfold World.cell? at h
    rw [e, hl] at h
    cases o <;> simp [noC] at hc <;> simp at h
  · rw [World.cell?_of_block (World.putObj_heap_other e)]; exact h
theorem putObj_cells {w : World} {l : Nat} {o o' : Obj} (hl : w.heap[l]? = some o) (hc : noC o = true) {b : Nat} {C : Array Value} {t : TypeId} {e : Nat × Nat} (h : w.heap[b]? = some (.cells C t e)) : (w.putObj l o').heap[b]? = some (.cells C t e) := by
  have : b ≠ l := by
    rintro rfl
    rw [hl] at h; cases h; simp [noC] at hc
  rw [World.putObj_heap_other this]; exact h
theorem putObj_twice {w : World} {l : Nat} {o o' : Obj} (hl : w.heap[l]? = some o) : (w.putObj l o').putObj l o = w := by
  obtain ⟨h1, h2⟩ := Array.getElem?_eq_some_iff.1 hl
  cases w
  simp only [World.putObj] at *
  congr 1
  apply Array.ext_getElem?
  intro i
  by_cases e : i = l
  · subst e; rw [hl, Array.getElem?_setIfInBounds_self_of_lt (by simpa using h1)]
  · rw [Array.getElem?_setIfInBounds_ne (Ne.symm e), Array.getElem?_setIfInBounds_ne (Ne.symm e)]
theorem putObj_same {w : World} {l : Nat} {o : Obj} (hl : w.heap[l]? = some o) : w.putObj l o = w := by
  have h1 := (Array.getElem?_eq_some_iff.1 hl).1
  cases w
  simp only [World.putObj] at *
  congr 1
  apply Array.ext_getElem?
  intro i
  by_cases e : i = l
  · subst e; rw [hl, Array.getElem?_setIfInBounds_self_of_lt (by simpa using h1)]
  · rw [Array.getElem?_setIfInBounds_ne (Ne.symm e)]
theorem Rep.poke {X : Env} {w : World} {l : Nat} {o o' : Obj} (hl : w.heap[l]? = some o) (hc : noC o = true) {h : List AObj} {bs : List (Option Nat)} {a : AV} {v : Value} (r : Rep X w h bs a v) : Rep X (w.putObj l o') h bs a v := by
  induction r with
  | any v => exact .any v
  | bool b => exact .bool b
  | int k n => exact .int k n
  | flt k b => exact .flt k b
  | str s => exact .str s
  | nilp => exact .nilp
  | nilf => exact .nilf
  | nili => exact .nili
  | nils => exact .nils
  | slE sz a c => exact .slE sz a c
  | sl sz xs b off c vs hne hp hc' hm hlt hX hb hsz hcell _ ih => exact .sl sz xs b off c vs hne hp hc' hm (by simpa using hlt) hX hb hsz (fun j x k y e1 e2 => putObj_cell hl hc (hcell j x k y e1 e2)) ih
  | oslN o ver ob hob hv hb => exact .oslN o ver ob hob hv hb
  | osl o ver off len c ob b C hob hv hb hlen hlc hcm hC hcap => exact .osl o ver off len c ob b C hob hv hb hlen hlc hcm (putObj_cells hl hc hC) hcap
  | oslE o ver off ob hob hv hoff a => exact .oslE o ver off ob hob hv hoff a
  | oslS o ver off len ob hob hv A n c => exact .oslS o ver off len ob hob hv A n c
  | ptr o ver i k ob b hob hv hb => exact .ptr o ver i k ob b hob hv hb
  | ptrS o ver i k ob hob hv p => exact .ptrS o ver i k ob hob hv p
  | rp xs b off vs hp hlt hX hb hone hcell _ ih => exact .rp xs b off vs hp (by simpa using hlt) hX hb hone (fun k y e => putObj_cell hl hc (hcell k y e)) ih
  | fn f l cs hl _ ih => exact .fn f l cs hl ih
  | iface t a v _ ih => exact .iface t a v ih
  | agg l cs hl _ ih => exact .agg l cs hl ih
  | tup l cs hl _ ih => exact .tup l cs hl ih
  | yld c hy => exact .yld c hy

/-- To so many objects a value leads. -/
theorem Rep.refs_le {X : Env} {w : World} {h : List AObj} {bs : List (Option Nat)} {a : AV} {v : Value} (r : Rep X w h bs a v) : a.refs ≤ h.length := by
  have lt : ∀ {o : Nat} {ob : AObj}, h[o]? = some ob → o + 1 ≤ h.length := fun e => (List.getElem?_eq_some_iff.1 e).1
  induction r with
  | oslN o ver ob hob hv hb => exact lt hob
  | osl o ver off len c ob b C hob hv hb hlen hlc hcm hC hcap => exact lt hob
  | oslE o ver off ob hob hv hoff a => exact lt hob
  | oslS o ver off len ob hob hv A n c => exact lt hob
  | ptr o ver i k ob b hob hv hb => exact lt hob
  | ptrS o ver i k ob hob hv p => exact lt hob
  | fn f l cs hl _ ih => simp only [AV.refs]; refine refsL_iff.2 fun x hx => ?_; obtain ⟨j, hj⟩ := List.getElem?_of_mem hx; have := (List.getElem?_eq_some_iff.1 hj).1; exact ih j x cs[j] hj (Array.getElem?_eq_getElem (by omega))
  | iface t a v _ ih => simp only [AV.refs]; exact ih
  | agg l cs hl _ ih => simp only [AV.refs]; refine refsL_iff.2 fun x hx => ?_; obtain ⟨j, hj⟩ := List.getElem?_of_mem hx; have := (List.getElem?_eq_some_iff.1 hj).1; exact ih j x cs[j] hj (Array.getElem?_eq_getElem (by omega))
  | tup l cs hl _ ih => simp only [AV.refs]; refine refsL_iff.2 fun x hx => ?_; obtain ⟨j, hj⟩ := List.getElem?_of_mem hx; have := (List.getElem?_eq_some_iff.1 hj).1; exact ih j x cs[j] hj (Array.getElem?_eq_getElem (by omega))
  | _ => simp [AV.refs]

theorem Fr.poke {w0 w : World} {h0 h : List AObj} {b0 bs : List (Option Nat)} (f : Fr w0 h0 b0 w h bs) {l : Nat} {o : Obj} (o' : Obj) (hl : w.heap[l]? = some o) (hc : noC o = true) (hlo : w0.heap.size ≤ l) : Fr w0 h0 b0 (w.putObj l o') h bs := by
  refine ⟨f.os, f.tape, f.output, by simpa using f.size, fun b hb hn => ?_, f.fresh, fun o1 ob0 e => ?_⟩
  · rw [World.putObj_heap_other (by omega)]; exact f.far b hb hn
  · obtain ⟨ob, g, a, c, v, k⟩ := f.obj o1 ob0 e
    exact ⟨ob, g, a, c, v, fun e2 => ⟨(k e2).1, (k e2).2.1, fun b C t e3 e4 => ((k e2).2.2 b C t e3 e4).imp fun C' hC => ⟨putObj_cells hl hc hC.1, hC.2⟩⟩⟩
theorem Fr.len {w0 w : World} {h0 h : List AObj} {b0 bs : List (Option Nat)} (f : Fr w0 h0 b0 w h bs) : h0.length ≤ h.length := by
  rcases Nat.lt_or_ge h.length h0.length with hl | hl
  · obtain ⟨ob, g, _⟩ := f.obj h.length h0[h.length] (List.getElem?_eq_getElem hl)
    have := (List.getElem?_eq_some_iff.1 g).1; omega
  · exact hl

theorem Marks.lt [Glob] {lo : Option Nat} {w : World} {bs : List (Option Nat)} : ∀ {ds : List Deferred}, Marks lo w bs ds → ∀ d ∈ ds, ∃ D, d = { target := .collected D, args := #[] } ∧ D < w.heap.size
  | [], _, d, hd => by cases hd
  | e :: ds, ⟨⟨D, h1, _, h3, _⟩, m⟩, d, hd => by
    rcases List.mem_cons.1 hd with rfl | hd
    · exact ⟨D, h1, (Array.getElem?_eq_some_iff.1 h3).1⟩
    · exact m.lt d hd
/-- No object holds a yield. -/
def noYH (h : List AObj) : Bool := h.all fun ob => noYL ob.xs
theorem noYH_iff {h : List AObj} : noYH h = true ↔ ∀ ob ∈ h, noYL ob.xs = true := by simp [noYH]

section
variable [G : Glob]
theorem HeapRel.lt {X : Env} {w : World} {h : List AObj} {bs : List (Option Nat)} (r : HeapRel X w h bs) {b : Nat} (hb : some b ∈ bs) : b < w.heap.size := by
  obtain ⟨j, hj⟩ := List.getElem?_of_mem hb
  have hi : j < h.length := by rw [← r.len]; exact (List.getElem?_eq_some_iff.1 hj).1
  obtain ⟨C, hC, _⟩ := r.lies j h[j] b (List.getElem?_eq_getElem hi) hj
  exact (Array.getElem?_eq_some_iff.1 hC).1
/-- While this loop is gone round. -/
@[reducible] def Glob.at (P : Program) (c : Nat × Loop × List (Nat × AV)) : Glob := { n := G.n, laid := G.laid, kept := G.kept, env := fun X => X.y = some c ∧ ∃ fc, P.funcs[c.2.1.fn]? = some fc, exc := some c.1 }

omit G in
/-- From one surrounding to another. -/
theorem HeapRel.turn {G1 G2 : Glob} (hn : G2.n = G1.n) (hlaid : ∀ w, G1.laid w → G2.laid w) {X X' : Env} {w w' : World} {h : List AObj} {bs : List (Option Nat)} (ho : X'.own = X.own) (r : @HeapRel G1 X w h bs) (hy : noYH h = true ∨ X.y = none)
    (hlv : G1.laid w') (hw : w' = w ∨ ∃ l o o', w.heap[l]? = some o ∧ noC o = true ∧ w' = w.putObj l o')
    (hev : G2.env X') (hN : X'.N ≤ h.length)
    (hyR : ∀ (l : Nat) (r : Loop) (tm : List (Nat × AV)), X'.y = some (l, r, tm) → (w'.heap[l]? = some (.loop r) ∧ G2.n ≤ l) ∧ some l ∉ bs ∧ ∀ t, (lk tm t).refs ≤ X'.N ∧ Rep X' w' h bs (lk tm t) (r.tmps.getD t undef)) :
    @HeapRel G2 X' w' h bs := by
  have rep : ∀ {a v}, a.noY = true ∨ X.y = none → Rep X w h bs a v → Rep X' w' h bs a v := by
    intro a v ha hr
    rcases hw with rfl | ⟨l, o, o', h1, h2, rfl⟩
    · exact hr.env ho ha
    · exact (hr.env ho ha).poke h1 h2
  have hsz : w'.heap.size = w.heap.size := by
    rcases hw with rfl | ⟨l, o, o', h1, h2, rfl⟩
    · rfl
    · simp
  obtain ⟨r1, r2, r3, r4, r5, r6, r7, r8, ⟨g1, g2, g3⟩, r9, r10, r11⟩ := r
  refine ⟨r1, r2, fun b hb => by rw [ho]; exact r3 b hb, fun b hb => by rw [hsz]; exact r4 b (ho ▸ hb), r5, r6, r7, fun o ob b e1 e2 => ?_, ⟨hlaid _ hlv, by rw [hn, hsz]; exact g2, fun b hb => by rw [hn]; exact g3 b hb⟩, hev, hN, hyR⟩
  obtain ⟨C, hC, hs, hx⟩ := r8 o ob b e1 e2
  refine ⟨C, ?_, hs, fun j x k y g1 g2 => (hx j x k y g1 g2).imp fun v hv => ⟨hv.1, rep (hy.imp (fun hy => ?_) id) hv.2⟩⟩
  · rcases hw with rfl | ⟨l, o, o', h1, h2, rfl⟩
    · exact hC
    · exact putObj_cells h1 h2 hC
  · exact noY_cells (noYL_iff.1 (noYH_iff.1 hy ob (List.mem_of_getElem? e1)) x (List.mem_of_getElem? g1)) (List.mem_of_getElem? g2)
theorem laid_poke {w : World} {l : Nat} {o' : Obj} (hl : G.n ≤ l) (h : G.laid w) : G.laid (w.putObj l o') := G.kept (fun b hb => World.putObj_heap_other (by omega)) h

/-- How a round's body ends. -/
def endY (base : Nat) (R : Out → List AObj → Prop) : AEx → St → Prop
  | .norm, s => R (.ret (.bool true)) s.h
  | .pan v, s => R (.pan v) s.h
  | _, _ => False
def bindT : List Nat → List AV → List (Nat × AV) → List (Nat × AV)
  | p :: ps, v :: vs, tm => bindT ps vs ((p, v) :: tm)
  | _, _, tm => tm

omit G in
theorem bindT_rep {X : Env} {w : World} {h : List AObj} {bs : List (Option Nat)} {n : Nat} : ∀ (ps : List Nat) (args : List AV) (vs : List Value) (tm : List (Nat × AV)) (t0 : Array Value), (∀ p ∈ ps, p < n) → t0.size = n → args.length = ps.length → RepL X w h bs args vs → (∀ t, Rep X w h bs (lk tm t) (t0.getD t undef)) →
    ((ps.zip vs).foldl (fun t (p : Nat × Value) => t.setIfInBounds p.1 p.2) t0).size = n ∧ ∀ t, Rep X w h bs (lk (bindT ps args tm) t) (((ps.zip vs).foldl (fun t (p : Nat × Value) => t.setIfInBounds p.1 p.2) t0).getD t undef)
  | [], args, vs, tm, t0, hp, hn, hl, hr, h0 => by
    have : args = [] := List.length_eq_zero_iff.1 (by simpa using hl)
    subst this
    exact ⟨hn, h0⟩
  | p :: ps, [], vs, tm, t0, hp, hn, hl, hr, h0 => by simp at hl
  | p :: ps, x :: args, [], tm, t0, hp, hn, hl, hr, h0 => by have := hr.1; simp at this
  | p :: ps, x :: args, v :: vs, tm, t0, hp, hn, hl, hr, h0 => by
    simp only [List.zip_cons_cons, List.foldl_cons, bindT]
    refine bindT_rep ps args vs ((p, x) :: tm) (t0.setIfInBounds p v) (fun q hq => hp q (List.mem_cons_of_mem _ hq)) (by simpa using hn) (by simpa using hl) ⟨by have := hr.1; simpa using this, fun j y z e1 e2 => hr.2 (j + 1) y z (by simpa using e1) (by simpa using e2)⟩ fun t => ?_
    simp only [lk]
    have hpn : p < t0.size := by rw [hn]; exact hp p (List.mem_cons_self ..)
    split
    · rename_i e; subst e
      rw [Array.getD_eq_getD_getElem?, Array.getElem?_setIfInBounds_self_of_lt hpn]
      exact hr.2 0 x v rfl rfl
    · rename_i e
      rw [Array.getD_eq_getD_getElem?, Array.getElem?_setIfInBounds_ne e, ← Array.getD_eq_getD_getElem?]
      exact h0 t

omit G in
theorem zip_fold (ps : Array Nat) (vs : List Value) (t0 : Array Value) : (ps.zip vs.toArray).foldl (fun t (p, v) => t.setIfInBounds p v) t0 = (ps.toList.zip vs).foldl (fun t (p : Nat × Value) => t.setIfInBounds p.1 p.2) t0 := by
  rw [← Array.foldl_toList]
  simp [Array.toList_zip]

/-- A loop over a function. -/
theorem awp_range {P : Program} {g : Operand} {g' : Opd} {ps : Array Nat} {assign body : Code} {s : St} {Q : AEx → St → Prop} {gf : FuncId} {cap : List AV} (htop : Glob.top) (hg : compO g = some g') (hv : ev s.tm g' = .fn gf cap) (hf : callOK P gf = true)
    (hfl : flat assign = true) (hfb : flat body = true) (hps : ∀ p ∈ ps.toList, p < s.nt)
    (k : ∀ c, (∀ (args : List AV) (h : List AObj) (R : Out → List AObj → Prop), noYL args = true → args.length = ps.size → noYH h = true →
        Awp P assign (fun e s1 => e = .norm ∧ (s1.h.length ≤ s1.base ∧ h.length ≤ s1.base) ∧ Awp P body (endY h.length R) s1) ⟨s.nt, h.length, bindT ps.toList args s.tm, h⟩ → @VY (Glob.at P c) P args h R) →
      @VH (Glob.at P c) P gf (.yld :: cap) s.h fun o h' => noYH h' = true ∧ match o with
        | .ret _ => Q .norm ⟨s.nt, s.base, s.tm, h'⟩
        | .pan v => v.noY = true ∧ Q (.pan v) ⟨0, 0, [], h'⟩) : Awp P (.rangeFunc g ps assign body) Q s := by
  intro X lo w0 h0 b0 w a bs r f g0 ro hro
  obtain ⟨hexc, henv⟩ := htop
  obtain ⟨rfl, rfl⟩ : ro = none ∧ lo = some w0.heap.size := by rcases hro with h | h; exact h; simp [flat] at h
  obtain ⟨hy0, hN0⟩ := (henv X).1 r.heap.ev
  have hgv := r.opd hg
  rw [hv] at hgv
  generalize hav : a.eval g = gv at hgv
  cases hgv with
  | fn _ _ lb hlb hrep =>
  refine wpR_rangeFunc ?_
  intro fn hfn
  obtain ⟨rec, hrec⟩ : ∃ rec : Loop, rec = { state := .ready, pending := none, fn, tmps := a.tmps, params := ps, assign, body, defers := w.heap.size } := ⟨_, rfl⟩
  obtain ⟨W1, hW1⟩ : ∃ W1, (w.alloc (.deferred (some []))).alloc (.loop rec) = W1 := ⟨_, rfl⟩
  have hL1 : W1.heap[w.heap.size + 1]? = some (.loop rec) := by
    rw [← hW1]; have := World.alloc_heap_new (w.alloc (.deferred (some []))) (.loop rec); rwa [World.size_alloc] at this
  have hK1 : W1.heap[w.heap.size]? = some (.deferred (some [])) := by
    rw [← hW1]; exact (Go.RowKit.Below.heap_alloc _ _ _ (by simp)).trans (World.alloc_heap_new w _)
  have hb1 : Go.RowKit.Below w.heap.size w W1 := by
    rw [← hW1]; exact ((Go.RowKit.Below.refl _ w).alloc (Nat.le_refl _) _).alloc (by simp) _
  have fW := Fr.of_below hb1 s.h bs
  have hS1 : W1.heap.size = w.heap.size + 2 := by rw [← hW1]; simp
  have hhW : HeapRel X W1 s.h bs := r.heap.below fW fun b hb => hb1.block b hb
  have hlbs : some (w.heap.size + 1) ∉ bs := fun hm => by have := r.heap.lt hm; omega
  have hDbs : some w.heap.size ∉ bs := fun hm => by have := r.heap.lt hm; omega
  obtain ⟨c, hc⟩ : ∃ c : Nat × Loop × List (Nat × AV), c = (w.heap.size + 1, rec, s.tm) := ⟨_, rfl⟩
  obtain ⟨X1, hX1⟩ : ∃ X1 : Env, X1 = ⟨X.own, s.h.length, some c⟩ := ⟨_, rfl⟩
  have hrect : rec.tmps = a.tmps := by rw [hrec]
  have hh1 : @HeapRel (Glob.at P c) X1 W1 s.h bs := by
    refine HeapRel.turn (G1 := G) (G2 := Glob.at P c) rfl (fun w h => h) (by rw [hX1]) hhW (.inr hy0) hhW.gl.laid (.inl rfl) ⟨by rw [hX1], by rw [hc, hrec]; exact hfn⟩ (by rw [hX1]; exact Nat.le_refl _) ?_
    intro l rc tm e
    rw [hX1] at e
    simp only [hc, Option.some.injEq, Prod.mk.injEq] at e
    obtain ⟨rfl, rfl, rfl⟩ := e
    refine ⟨⟨hL1, ?_⟩, hlbs, fun t => ?_⟩
    · have := r.heap.gl.size; show G.n ≤ _; omega
    · have h1 := (r.tm t).fr fW
      rw [hrect, hX1]
      exact ⟨h1.refs_le, h1.env (X := X) (X' := ⟨X.own, s.h.length, some c⟩) rfl (.inr hy0)⟩
  -- what a round comes to
  have prov := k c fun args h R hna hal hnh hbody => by
    intro X' w bs vs l' r' tm' hy hh hl
    have hh' := hh
    obtain ⟨r1, r2, r3, r4, r5, r6, r7, r8, ⟨gl1, gl2, gl3⟩, hev, r10, r11⟩ := hh'
    obtain ⟨hc', fc, hfc⟩ := hev
    have hfc2 := hfc
    rw [hc] at hfc2
    rw [hy] at hc'
    simp only [hc, Option.some.injEq, Prod.mk.injEq] at hc'
    obtain ⟨hl', hr', htm'⟩ := hc'
    subst hr'; subst htm'
    obtain ⟨⟨y1, y2⟩, y3, y4⟩ := r11 _ _ _ hy
    have hvl : vs.length = ps.size := by rw [hl.1]; exact hal
    have hpar : r'.params = ps := by rw [hrec]
    have hst0 : r'.state = .ready := by rw [hrec]
    have hpe0 : r'.pending = none := by rw [hrec]
    refine ⟨by rw [hpar]; exact hvl, ?_⟩
    rw [zip_fold, hpar, show r'.assign = assign by rw [hrec], show r'.body = body by rw [hrec]]
    obtain ⟨X0, hX0⟩ : ∃ X0 : Env, X0 = ⟨X'.own, 0, none⟩ := ⟨_, rfl⟩
    have hev0 : G.env X0 := by rw [hX0]; exact (henv _).2 ⟨rfl, rfl⟩
    have noyR : ∀ (w : World) (h : List AObj) (bs : List (Option Nat)) (l : Nat) (r : Loop) (tm : List (Nat × AV)), X0.y = some (l, r, tm) → (w.heap[l]? = some (.loop r) ∧ G.n ≤ l) ∧ some l ∉ bs ∧ ∀ t, (lk tm t).refs ≤ X0.N ∧ Rep X0 w h bs (lk tm t) (r.tmps.getD t undef) := by
      intro w h bs l r tm e; rw [hX0] at e; cases e
    have hl0 : l' < w.heap.size := (Array.getElem?_eq_some_iff.1 y1).1
    have hh0 : HeapRel X0 w h bs := HeapRel.turn (G1 := Glob.at P c) (G2 := G) rfl (fun w h => h) (by rw [hX0]) hh (.inl hnh) gl1 (.inl rfl) hev0 (by rw [hX0]; exact Nat.zero_le _) (noyR w h bs)
    have hl0' : RepL X0 w h bs args vs := ⟨hl.1, fun j x v e1 e2 => (hl.2 j x v e1 e2).env (by rw [hX0]) (.inl (noYL_iff.1 hna x (List.mem_of_getElem? e1)))⟩
    have hts : r'.tmps.size = s.nt := by rw [hrect, r.nt]
    have htm0 : ∀ t, Rep X0 w h bs (lk s.tm t) (r'.tmps.getD t undef) := by
      intro t
      have e1 := (y4 t).2
      have e0 : (lk s.tm t).noY = true := (r.tm t).noY hy0
      exact e1.env (by rw [hX0]) (.inl e0)
    obtain ⟨b1, b2⟩ := bindT_rep ps.toList args vs s.tm r'.tmps hps hts (by simpa using hal) hl0' htm0
    refine roundIn_of_wpR ⟨fc, hfc2⟩ ?_
    have st0 : StRel X0 none w { tmps := (ps.toList.zip vs).foldl (fun t (p : Nat × Value) => t.setIfInBounds p.1 p.2) r'.tmps, defers := [] } bs ⟨s.nt, h.length, bindT ps.toList args s.tm, h⟩ := ⟨hh0, b1, b2, trivial, by rw [hX0]; exact Nat.zero_le _⟩
    refine wpR_mono (hbody X0 none w h bs w _ bs st0 (Fr.refl ..) (Nat.le_refl _) (some l') (.inr hfl)) ?_
    intro e a1 w1 q
    cases e with
    | normal =>
      obtain ⟨s1, bs1, ⟨_, ⟨q1, q2⟩, q3⟩, r1, f1, g1⟩ := q
      have z1 : w1.heap[l']? = some (.loop r') := (f1.far l' hl0 y3).trans y1
      have z1b : some l' ∉ bs1 := fun hm => y3 (f1.fresh l' hm hl0)
      refine ⟨_, run_beginRound z1 hst0, ?_⟩
      obtain ⟨w2, hw2⟩ : ∃ w2, w1.putObj l' (.loop { r' with state := .busy }) = w2 := ⟨_, rfl⟩
      rw [hw2]
      have z2 : w2.heap[l']? = some (.loop { r' with state := .busy }) := by rw [← hw2]; exact World.putObj_heap_same (Array.getElem?_eq_some_iff.1 z1).1
      have hh2 : HeapRel X0 w2 s1.h bs1 := HeapRel.turn (G1 := G) (G2 := G) rfl (fun w h => h) rfl r1.heap (.inr (by rw [hX0])) (by rw [← hw2]; exact laid_poke y2 r1.heap.gl.laid) (.inr ⟨l', _, _, z1, rfl, hw2.symm⟩) hev0 (by rw [hX0]; exact Nat.zero_le _) (noyR _ _ _)
      have st2 : StRel X0 none w2 a1 bs1 s1 := by
        refine ⟨hh2, r1.nt, fun t => by rw [← hw2]; exact (r1.tm t).poke z1 rfl, ?_, r1.bn⟩
        rw [r1.df.nil]; trivial
      refine wpR_mono (q3 X0 none w2 s1.h bs1 w2 a1 bs1 st2 (Fr.refl ..) q1 (some l') (.inr hfb)) ?_
      have back : ∀ (w3 : World) (h3 : List AObj) (bs3 : List (Option Nat)), Fr w2 s1.h bs1 w3 h3 bs3 → HeapRel X0 w3 h3 bs3 → w3.heap[l']? = some (.loop { r' with state := .busy }) ∧ @HeapRel (Glob.at P c) X' (w3.putObj l' (.loop r')) h3 bs3 ∧ Fr w h bs (w3.putObj l' (.loop r')) h3 bs3 := by
        intro w3 h3 bs3 f3 hh3
        have hl2 : l' < w2.heap.size := (Array.getElem?_eq_some_iff.1 z2).1
        have z3 : w3.heap[l']? = some (.loop { r' with state := .busy }) := (f3.far l' hl2 z1b).trans z2
        have z3b : some l' ∉ bs3 := fun hm => z1b (f3.fresh l' hm hl2)
        have hl3 : l' < w3.heap.size := (Array.getElem?_eq_some_iff.1 z3).1
        have hsz2 : w2.heap.size = w1.heap.size := by rw [← hw2]; simp
        have ff : Fr w h bs (w3.putObj l' (.loop r')) h3 bs3 := by
          refine ⟨?_, ?_, ?_, ?_, fun b hb hn => ?_, fun b hm hb => ?_, fun o ob0 e => ?_⟩
          · show w3.os = _; rw [f3.os, ← hw2]; exact f1.os
          · show w3.tape = _; rw [f3.tape, ← hw2]; exact f1.tape
          · show w3.output = _; rw [f3.output, ← hw2]; exact f1.output
          · have := f1.size; have := f3.size; simp; omega
          · by_cases hbl : b = l'
            · subst hbl; rw [World.putObj_heap_same hl3, y1]
            · have hb1' : some b ∉ bs1 := fun hm => hn (f1.fresh b hm hb)
              have := f1.size
              rw [World.putObj_heap_other hbl, f3.far b (by omega) hb1', ← hw2, World.putObj_heap_other hbl, f1.far b hb hn]
          · have := f1.size
            exact f1.fresh b (f3.fresh b hm (by omega)) hb
          · obtain ⟨ob1, u1, u2, u3, u4, u5⟩ := f1.obj o ob0 e
            obtain ⟨ob3, v1, v2, v3, v4, v5⟩ := f3.obj o ob1 u1
            refine ⟨ob3, v1, v2.trans u2, v3.trans u3, Nat.le_trans u4 v4, fun e2 => ?_⟩
            obtain ⟨m1, m2, m3⟩ := v5 (by omega)
            obtain ⟨n1, n2, n3⟩ := u5 (by omega)
            refine ⟨m1.trans n1, m2.trans n2, fun b C t e3 e4 => ?_⟩
            obtain ⟨C1, p1, p2⟩ := n3 b C t e3 e4
            obtain ⟨C2, p3, p4⟩ := m3 b C1 t (n1.trans e3) (by rw [← hw2]; exact putObj_cells z1 rfl p1)
            exact ⟨C2, putObj_cells z3 rfl p3, p4.trans p2⟩
        refine ⟨z3, ?_, ff⟩
        refine HeapRel.turn (G1 := G) (G2 := Glob.at P c) rfl (fun w h => h) (by rw [hX0]) hh3 (.inr (by rw [hX0])) (laid_poke y2 hh3.gl.laid) (.inr ⟨l', _, _, z3, rfl, rfl⟩) ⟨hy.trans (by rw [hc, hl']), fc, hfc⟩ (Nat.le_trans r10 ff.len) ?_
        intro l2 r2 tm2 e2
        rw [hy] at e2; cases e2
        exact ⟨⟨World.putObj_heap_same hl3, y2⟩, z3b, fun t => ⟨(y4 t).1, (y4 t).2.fr ff⟩⟩
      intro e a3 w3 q
      cases e with
      | normal =>
        obtain ⟨s3, bs3, q, r3, f3, g3⟩ := q
        obtain ⟨z3, hh4, ff⟩ := back w3 s3.h bs3 f3 r3.heap
        refine ⟨_, _, run_endRound none z3, s3.h, bs3, .bool true, .bool true, _, ?_, ?_, .bool true, .inl ⟨rfl, rfl, q⟩⟩
        · have : ({ { r' with state := .busy } with state := if (none : Option Code).isNone then .ready else .done, pending := none } : Loop) = r' := by
            cases r'; simp at hst0 hpe0 ⊢; exact ⟨hst0.symm, hpe0.symm⟩
          rw [this]; exact hh4
        · have : ({ { r' with state := .busy } with state := if (none : Option Code).isNone then .ready else .done, pending := none } : Loop) = r' := by
            cases r'; simp at hst0 hpe0 ⊢; exact ⟨hst0.symm, hpe0.symm⟩
          rw [this]; exact ff
      | panic ch =>
        obtain ⟨v, x, h3, bs3, w3', hpk, rfl, q, hh3, hv3, f3, m3⟩ := q
        have := hpk.eq hexc
        subst this
        obtain ⟨z3, hh4, ff⟩ := back _ h3 bs3 f3 hh3
        refine ⟨m3.nil, h3, bs3, v, x, _, hh4, ff, (hv3.env (by rw [hX0]) (.inr (by rw [hX0]))).poke z3 rfl, .inr ⟨rfl, .inr ⟨l', r', { r' with state := .busy }, ?_, World.putObj_heap_same (Array.getElem?_eq_some_iff.1 z3).1, ?_⟩, q⟩⟩
        · show some c.1 = _; rw [hc, hl']
        · exact (putObj_twice z3).symm
      | exit i => obtain ⟨_, _, q, _⟩ := q; exact q.elim
      | ret => obtain ⟨_, _, q, _⟩ := q; exact q.elim
      | goto i => exact q.elim
      | outgrown => exact q.elim
    | panic ch => obtain ⟨_, _, _, _, _, _, _, q, _⟩ := q; exact absurd q.1 (by simp)
    | exit i => obtain ⟨_, _, q, _⟩ := q; exact absurd q.1 (by simp)
    | ret => obtain ⟨_, _, q, _⟩ := q; exact absurd q.1 (by simp)
    | goto i => exact q.elim
    | outgrown => exact q.elim
  refine ⟨w.heap.size + 1, [{ target := .collected w.heap.size, args := #[] }], W1, { target := .fn (.func gf) lb, args := #[.func (.yield (w.heap.size + 1)) #[] #[]] }, W1, gf,
    #[.func (.yield (w.heap.size + 1)) #[] #[]] ++ lb, W1, ?_, ?_, ?_, ?_⟩
  · rw [← hW1, hrec]; exact run_enterLoop_outer _ _ _ _ _
  · simp only [resolve, hav]
    simp [go_sem]
  · simp [invoke, go_sem, run_callFunc hf]
  -- behind the loop
  have hl1 : RepL X1 W1 s.h bs (.yld :: cap) (.func (.yield (w.heap.size + 1)) #[] #[] :: lb.toList) := by
    refine ⟨by simp [hlb], fun j x v e1 e2 => ?_⟩
    cases j with
    | zero => simp at e1 e2; subst e1; subst e2; have := Rep.yld (X := X1) (w := W1) (h := s.h) (bs := bs) c (by rw [hX1]); rwa [hc] at this
    | succ j =>
      simp at e1 e2
      exact ((hrep j x v e1 e2).fr fW).env (X' := X1) (by rw [hX1]) (.inr hy0)
  have hargs : (#[.func (.yield (w.heap.size + 1)) #[] #[]] ++ lb : Array Value) = (Value.func (.yield (w.heap.size + 1)) #[] #[] :: lb.toList).toArray := by apply Array.ext'; simp
  rw [hargs]
  have fin : ∀ (w1 w2 : World) (h' : List AObj) (bs' : List (Option Nat)), @HeapRel (Glob.at P c) X1 w1 h' bs' → Fr W1 s.h bs w1 h' bs' → noYH h' = true → (∃ o', w2 = w1.putObj (w.heap.size + 1) (.loop o')) → HeapRel X w2 h' bs' ∧ Fr w s.h bs w2 h' bs' ∧ Marks (some w0.heap.size) w2 bs' ({ target := .collected w.heap.size, args := #[] } :: a.defers) ∧ ∀ v x, v.noY = true → Rep X1 w1 h' bs' v x → Rep X w2 h' bs' v x := by
    rintro w1 _ h' bs' hh hf' hnY ⟨o', rfl⟩
    have hhc := hh
    obtain ⟨r1, r2, r3, r4, r5, r6, r7, r8, ⟨gl1, gl2, gl3⟩, hev, r10, r11⟩ := hhc
    have z1 : w1.heap[w.heap.size + 1]? = some (.loop rec) := (hf'.far _ (by omega) hlbs).trans hL1
    have hn0 : G.n ≤ w.heap.size := r.heap.gl.size
    have ff : Fr w s.h bs (w1.putObj (w.heap.size + 1) (.loop o')) h' bs' := (fW.trans hf').poke _ z1 rfl (by omega)
    refine ⟨?_, ff, ⟨⟨_, rfl, ⟨hexc, _, rfl, f.size⟩, ?_, fun hm => hDbs (hf'.fresh _ hm (by omega)), fun d' hd' => ?_⟩, r.df.fr ff⟩, fun v x hv hr => (hr.env (X' := X) (by rw [hX1]) (.inl hv)).poke z1 rfl⟩
    · refine HeapRel.turn (G1 := Glob.at P c) (G2 := G) (X := X1) (X' := X) rfl (fun w h => h) (by rw [hX1]) hh (.inl hnY) (laid_poke (by omega) gl1) (.inr ⟨_, _, _, z1, rfl, rfl⟩) r.heap.ev (by rw [hN0]; exact Nat.zero_le _) ?_
      intro l rc tm e; rw [hy0] at e; cases e
    · rw [World.putObj_heap_other (by omega), hf'.far _ (by omega) hDbs]; exact hK1
    · obtain ⟨D', rfl, hD'⟩ := r.df.lt d' hd'
      intro e; cases e; omega
  refine (prov X1 W1 bs _ hh1 hl1).mono ?_
  rintro e w' ⟨h', bs', v, x, w1, hh, hf', hv', (⟨rfl, rfl, hnY, q⟩ | ⟨rfl, hpk, hnY, hvY, q⟩)⟩
  · have z1 : w'.heap[w.heap.size + 1]? = some (.loop rec) := (hf'.far _ (by omega) hlbs).trans hL1
    obtain ⟨p1, p2, p3, p4⟩ := fin w' _ h' bs' hh hf' hnY ⟨_, rfl⟩
    have := run_endLoop (P := P) z1 (by rw [hrec]; simp)
    rw [show rec.pending = none by rw [hrec]] at this
    exact ⟨_, this, ⟨s.nt, s.base, s.tm, h'⟩, bs', q, ⟨p1, r.nt, fun t => (r.tm t).fr p2, p3, r.bn⟩, f.trans p2, g0⟩
  · obtain ⟨o', hw'⟩ : ∃ o', w' = w1.putObj (w.heap.size + 1) (.loop o') := by
      have z1 : w1.heap[w.heap.size + 1]? = some (.loop rec) := (hf'.far _ (by omega) hlbs).trans hL1
      rcases hpk with rfl | ⟨l, r1, r2, e1, e2, e3⟩
      · exact ⟨rec, (putObj_same z1).symm⟩
      · have : l = w.heap.size + 1 := by have e1 : some c.1 = some l := e1; rw [hc] at e1; cases e1; rfl
        subst this
        exact ⟨r2, e3⟩
    obtain ⟨p1, p2, p3, p4⟩ := fin w1 w' h' bs' hh hf' hnY ⟨o', hw'⟩
    exact ⟨v, x, h', bs', w', .inl rfl, rfl, q, p1, p4 v x hvY hv', f.trans p2, p3⟩
end
end Go.Pe
