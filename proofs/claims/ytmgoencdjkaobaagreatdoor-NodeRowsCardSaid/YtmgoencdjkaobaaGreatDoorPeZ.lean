/- Own rows that are handed on to be read only. No program in sight; no conditions. -/
import Derived.Test.YtmgoencdjkaobaaGreatDoorPeC
import Derived.Maps.AppendAt
import Derived.Laws.CopyRow
import Derived.Laws.OwnMore
set_option linter.unusedVariables false
set_option linter.unusedSimpArgs false
namespace Go.Pe

/-- Cells that lead nowhere but to what is only read. -/
def onesP : List AV → Bool
  | [] => true
  | y :: r => (y.one && y.pure) && onesP r
theorem onesP_iff {l : List AV} : onesP l = true ↔ ∀ y ∈ l, y.one = true ∧ y.pure = true := by
  induction l with
  | nil => simp [onesP]
  | cons x r ih => simp [onesP, ih]
mutual
/-- What leads to objects that are let go: as what is only read. -/
def frz (N : Nat) (h : List AObj) : AV → AV
  | .osl o ver off len => if o < N then .osl o ver off len else match h[o]? with
    | some ob => if ob.ver = ver ∧ ob.pur = true then .sl ob.sz ((ob.xs.drop off).take len) else .any
    | none => .any
  | .ptr o ver i k => if o < N then .ptr o ver i k else match h[o]? with
    | some ob => if ob.ver = ver then match ob.xs[i]? with
      | some x => if onesP x.cells = true then .rp (x.cells.drop k) else .any
      | none => .any
      else .any
    | none => .any
  | .tup l => .tup (frzL N h l)
  | .agg l => .agg (frzL N h l)
  | .fn f l => .fn f (frzL N h l)
  | .iface t v => .iface t (frz N h v)
  | v => v
def frzL (N : Nat) (h : List AObj) : List AV → List AV
  | [] => []
  | x :: r => frz N h x :: frzL N h r
end
theorem frzL_map {N : Nat} {h : List AObj} : ∀ (l : List AV), frzL N h l = l.map (frz N h)
  | [] => rfl
  | x :: r => by simp only [frzL, List.map_cons, frzL_map r]

section
variable [Glob] {X : Env} {w : World} {h : List AObj} {bs : List (Option Nat)}
omit [Glob] in
theorem frz_list {N : Nat} {l : List AV} {vs : Array Value} (hl : vs.size = l.length) (hr : refsL (frzL N h l) ≤ N)
    (ih : ∀ (j : Nat) (x : AV) (v : Value), l[j]? = some x → vs[j]? = some v → (frz N h x).refs ≤ N → Rep X w (h.take N) (bs.take N) (frz N h x) v) :
    vs.size = (frzL N h l).length ∧ ∀ (j : Nat) (x : AV) (v : Value), (frzL N h l)[j]? = some x → vs[j]? = some v → Rep X w (h.take N) (bs.take N) x v := by
  rw [frzL_map] at hr ⊢
  refine ⟨by simpa using hl, fun j x v e1 e2 => ?_⟩
  rw [List.getElem?_map] at e1
  cases hx : l[j]? with
  | none => rw [hx] at e1; cases e1
  | some y =>
    rw [hx] at e1; cases e1
    exact ih j y v hx e2 (refsL_iff.1 hr _ (List.mem_map.2 ⟨y, List.mem_of_getElem? hx, rfl⟩))

theorem frz_rep (r0 : HeapRel X w h bs) (N : Nat) {v : AV} {x : Value} (r : Rep X w h bs v x) : (frz N h v).refs ≤ N → Rep X w (h.take N) (bs.take N) (frz N h v) x := by
  induction r with
  | any v => intro hr; simp only [frz]; exact .any _
  | bool b => intro hr; simp only [frz]; exact .bool _
  | int k n => intro hr; simp only [frz]; exact .int _ _
  | flt k b => intro hr; simp only [frz]; exact .flt _ _
  | str s => intro hr; simp only [frz]; exact .str _
  | nilp => intro hr; simp only [frz]; exact .nilp
  | nilf => intro hr; simp only [frz]; exact .nilf
  | nili => intro hr; simp only [frz]; exact .nili
  | nils => intro hr; simp only [frz]; exact .nils
  | slE sz a c => intro hr; simp only [frz]; exact .slE _ _ _
  | sl sz xs b off c vs hne hp hc hm hlt hX hb hsz hcell hrep ih => intro hr; simp only [frz] at hr ⊢; exact (Rep.sl sz xs b off c vs hne hp hc hm hlt hX hb hsz hcell hrep).take N hr
  | rp xs b off vs hp hlt hX hb hone hcell hrep ih => intro hr; simp only [frz] at hr ⊢; exact (Rep.rp xs b off vs hp hlt hX hb hone hcell hrep).take N hr
  | ptr o ver i k ob b hob hv hb =>
    intro hr
    simp only [frz] at hr ⊢
    split
    · rename_i ho; rw [if_pos ho] at hr; exact (Rep.ptr o ver i k ob b hob hv hb).take N hr
    · rename_i ho
      rw [hob]; simp only []
      rw [if_pos hv]
      have hbN : some b ∉ bs.take N := by
        intro hm
        obtain ⟨j, hj⟩ := List.getElem?_of_mem hm
        have h1 := getElem?_take_some hj
        have h2 := r0.inj j o b h1 hb
        have h3 := (List.getElem?_eq_some_iff.1 hj).1
        rw [List.length_take] at h3
        omega
      obtain ⟨D, hD, hs2, hx2⟩ := r0.lies o ob b hob hb
      cases hx : ob.xs[i]? with
      | none => exact .any _
      | some x =>
        simp only []
        split
        · rename_i hp
          have hp := onesP_iff.1 hp
          have hd : ∀ y ∈ x.cells.drop k, y ∈ x.cells := fun y hy => List.mem_of_mem_drop hy
          have key : ∀ (j : Nat) (y : AV), (x.cells.drop k)[j]? = some y → ∃ v, D[i * ob.sz + k + j]? = some v ∧ Rep X w h bs y v := by
            intro j y e
            rw [List.getElem?_drop] at e
            obtain ⟨v, h1, h2⟩ := hx2 i x (k + j) y hx e
            rw [← Nat.add_assoc] at h1
            exact ⟨v, h1, h2⟩
          refine Rep.rp (x.cells.drop k) b (i * ob.sz + k) (fun j => D.getD (i * ob.sz + k + j) undef) (pureL_iff.2 fun y hy => (hp y (hd y hy)).2) (Array.getElem?_eq_some_iff.1 hD).1 (r0.notX b (List.mem_of_getElem? hb)) hbN (fun y hy => (hp y (hd y hy)).1) ?_ ?_
          · intro j y e
            obtain ⟨v, h1, _⟩ := key j y e
            rw [cell_of_row _ _ _ _ _ _ hD, Array.getD_eq_getD_getElem?, h1]; rfl
          · intro j y e
            obtain ⟨v, h1, h2⟩ := key j y e
            rw [Array.getD_eq_getD_getElem?, h1]
            exact h2.take N (by rw [pure_refs y (hp y (hd y (List.mem_of_getElem? e))).2]; exact Nat.zero_le _)
        · exact .any _
  | ptrS o ver i k ob hob hv p =>
    intro hr
    simp only [frz] at hr ⊢
    split
    · rename_i ho; rw [if_pos ho] at hr; exact (Rep.ptrS o ver i k ob hob hv p).take N hr
    · rw [hob]; simp only []; rw [if_neg (by omega)]; exact .any _
  | fn f l cs hl hrep ih => intro hr; simp only [frz, AV.refs] at hr ⊢; obtain ⟨a, b⟩ := frz_list (X := X) (w := w) (bs := bs) hl hr (fun j x v e1 e2 => ih j x v e1 e2); exact .fn _ _ _ a b
  | iface t a v hv ih => intro hr; simp only [frz, AV.refs] at hr ⊢; exact .iface _ _ _ (ih hr)
  | agg l cs hl hrep ih => intro hr; simp only [frz, AV.refs] at hr ⊢; obtain ⟨a, b⟩ := frz_list (X := X) (w := w) (bs := bs) hl hr (fun j x v e1 e2 => ih j x v e1 e2); exact .agg _ _ a b
  | tup l cs hl hrep ih => intro hr; simp only [frz, AV.refs] at hr ⊢; obtain ⟨a, b⟩ := frz_list (X := X) (w := w) (bs := bs) hl hr (fun j x v e1 e2 => ih j x v e1 e2); exact .tup _ _ a b
  | yld c hy => intro hr; simp only [frz]; exact .yld c hy
  | oslN o ver ob hob hv hb =>
    intro hr
    simp only [frz] at hr ⊢
    split
    · rename_i ho; rw [if_pos ho] at hr; exact (Rep.oslN o ver ob hob hv hb).take N hr
    · rw [hob]; simp only []; split
      · rw [List.take_zero]; exact .slE _ _ _
      · exact .any _
  | oslE o ver off ob hob hv hoff a =>
    intro hr
    simp only [frz] at hr ⊢
    split
    · rename_i ho; rw [if_pos ho] at hr; exact (Rep.oslE o ver off ob hob hv hoff a).take N hr
    · rw [hob]; simp only []; split
      · rw [List.take_zero]; exact .slE _ _ _
      · exact .any _
  | oslS o ver off len ob hob hv A n c =>
    intro hr
    simp only [frz] at hr ⊢
    split
    · rename_i ho; rw [if_pos ho] at hr; exact (Rep.oslS o ver off len ob hob hv A n c).take N hr
    · rw [hob]; simp only []; rw [if_neg (by omega)]; exact .any _
  | osl o ver off len c ob b C hob hv hb hlen hlc hcm hC hcap =>
    intro hr
    simp only [frz] at hr ⊢
    split
    · rename_i ho; rw [if_pos ho] at hr; exact (Rep.osl o ver off len c ob b C hob hv hb hlen hlc hcm hC hcap).take N hr
    · rename_i ho
      rw [hob]; simp only []
      split
      · rename_i hp
        have hll : ((ob.xs.drop off).take len).length = len := by simp; omega
        have hmem := List.mem_of_getElem? hob
        have hbN : some b ∉ bs.take N := by
          intro hm
          obtain ⟨j, hj⟩ := List.getElem?_of_mem hm
          have h1 := getElem?_take_some hj
          have h2 := r0.inj j o b h1 hb
          have h3 := (List.getElem?_eq_some_iff.1 hj).1
          rw [List.length_take] at h3
          omega
        cases hxs : (ob.xs.drop off).take len with
        | nil =>
          rw [hxs] at hll
          simp at hll
          subst hll
          exact .slE _ _ _
        | cons x0 r1 =>
          rw [← hxs]
          obtain ⟨D, hD, hs2, hx2⟩ := r0.lies o ob b hob hb
          have hget : ∀ (j : Nat) (x : AV), ((ob.xs.drop off).take len)[j]? = some x → ob.xs[off + j]? = some x := by
            intro j x e
            have := getElem?_take_some e
            rw [List.getElem?_drop] at this; exact this
          have hpur := pureL_iff.1 (r0.pur ob hmem hp.2)
          have key : ∀ (j : Nat) (x : AV) (k : Nat) (y : AV), ((ob.xs.drop off).take len)[j]? = some x → x.cells[k]? = some y → ∃ v, D[off * ob.sz + (j * ob.sz + k)]? = some v ∧ Rep X w h bs y v := by
            intro j x k y e1 e2
            obtain ⟨v, h1, h2⟩ := hx2 (off + j) x k y (hget j x e1) e2
            rw [Nat.add_mul, Nat.add_assoc] at h1
            exact ⟨v, h1, h2⟩
          have := Rep.sl (X := X) (w := w) (h := h.take N) (bs := bs.take N) ob.sz ((ob.xs.drop off).take len) b (off * ob.sz) c (fun j k => D.getD (off * ob.sz + (j * ob.sz + k)) undef) (by rw [hxs]; simp)
            (pureL_iff.2 fun x hx => by
              obtain ⟨j, hj⟩ := List.getElem?_of_mem hx
              exact hpur x (List.mem_of_getElem? (hget j x hj)))
            (by omega) hcm (Array.getElem?_eq_some_iff.1 hD).1 (r0.notX b (List.mem_of_getElem? hb)) hbN
            (fun x hx => by
              obtain ⟨j, hj⟩ := List.getElem?_of_mem hx
              have := r0.shape ob hmem x (List.mem_of_getElem? (hget j x hj))
              exact ⟨this.1, this.2 hp.2⟩)
            (fun j x k y e1 e2 => by
              obtain ⟨v, h1, _⟩ := key j x k y e1 e2
              rw [cell_of_row _ _ _ _ _ _ hD, Array.getD_eq_getD_getElem?, h1]; rfl)
            (fun j x k y e1 e2 => by
              obtain ⟨v, h1, h2⟩ := key j x k y e1 e2
              rw [Array.getD_eq_getD_getElem?, h1]
              have hyp : y.pure = true := by
                have hx := hpur x (List.mem_of_getElem? (hget j x e1))
                cases x with
                | agg l => simp only [AV.cells] at e2; simp only [AV.pure] at hx; exact pureL_iff.1 hx y (List.mem_of_getElem? e2)
                | _ => simp only [AV.cells] at e2; cases k <;> simp at e2; subst e2; exact hx
              exact h2.take N (by rw [pure_refs y hyp]; exact Nat.zero_le _))
          rw [hll] at this
          exact this
      · exact .any _
end


mutual
/-- It leads to no memory. -/
def AV.scal : AV → Bool
  | .bool _ => true
  | .int .. => true
  | .flt .. => true
  | .str _ => true
  | .nilp => true
  | .nilf => true
  | .nili => true
  | .nils => true
  | .iface _ v => v.scal
  | .agg l => scalL l
  | .tup l => scalL l
  | _ => false
def scalL : List AV → Bool
  | [] => true
  | x :: r => x.scal && scalL r
end
theorem scalL_iff {l : List AV} : scalL l = true ↔ ∀ x ∈ l, x.scal = true := by
  induction l with
  | nil => simp [scalL]
  | cons x r ih => simp [scalL, ih]
theorem Rep.scal {X X' : Env} {w w' : World} {h h' : List AObj} {bs bs' : List (Option Nat)} {a : AV} {v : Value} (r : Rep X w h bs a v) : a.scal = true → Rep X' w' h' bs' a v := by
  induction r with
  | bool b => intro _; exact .bool b
  | int k n => intro _; exact .int k n
  | flt k b => intro _; exact .flt k b
  | str s => intro _; exact .str s
  | nilp => intro _; exact .nilp
  | nilf => intro _; exact .nilf
  | nili => intro _; exact .nili
  | nils => intro _; exact .nils
  | iface t a v _ ih => intro hs; simp only [AV.scal] at hs; exact .iface t a v (ih hs)
  | agg l cs hl _ ih => intro hs; simp only [AV.scal] at hs; exact .agg l cs hl fun j x v e1 e2 => ih j x v e1 e2 (scalL_iff.1 hs x (List.mem_of_getElem? e1))
  | tup l cs hl _ ih => intro hs; simp only [AV.scal] at hs; exact .tup l cs hl fun j x v e1 e2 => ih j x v e1 e2 (scalL_iff.1 hs x (List.mem_of_getElem? e1))
  | _ => intro hs; simp [AV.scal] at hs
theorem frz_pure (h : List AObj) (x : AV) (hp : x.pure = true) : frz 0 h x = x := by
  refine AV.rec (motive_1 := fun x => x.pure = true → frz 0 h x = x) (motive_2 := fun l => pureL l = true → frzL 0 h l = l) ?_ ?_ ?_ ?_ ?_ ?_ ?_ ?_ ?_ ?_ ?_ ?_ ?_ ?_ ?_ ?_ ?_ ?_ ?_ ?_ x hp
  all_goals simp_all [AV.pure, frz, frzL, pureL]
theorem frzL_pure (h : List AObj) (l : List AV) (hp : pureL l = true) : frzL 0 h l = l := by
  rw [frzL_map]
  conv => rhs; rw [← List.map_id l]
  exact List.map_congr_left fun x hx => frz_pure h x (pureL_iff.1 hp x hx)
section
variable [Glob]
/-- What a call of rows that are only read comes to, it comes to where they are the caller's own. -/
theorem V.own {P : Program} {f : FuncId} {args : List AV} {v : AV} {h : List AObj} (ht : Glob.top) (c : V P f (frzL 0 h args) (.ret v)) (ha : pureL (frzL 0 h args) = true) (hs : v.scal = true) : VH P f args h fun o h' => o = .ret v ∧ h' = h := by
  intro X w bs vs hh hl
  obtain ⟨y0, n0⟩ := (ht.2 X).1 hh.ev
  have h0 : HeapRel X w [] [] := ⟨rfl, by simp, by simp, hh.Xlt, by simp, by simp, by simp, by simp, hh.gl.sub (by simp), hh.ev, by rw [n0]; exact Nat.le_refl _, fun l r tm e => by rw [y0] at e; cases e⟩
  have hl0 : RepL X w [] [] (frzL 0 h args) vs := by
    refine ⟨by rw [frzL_map, List.length_map]; exact hl.1, fun j x u e1 e2 => ?_⟩
    rw [frzL_map, List.getElem?_map] at e1
    cases hx : args[j]? with
    | none => rw [hx] at e1; cases e1
    | some y =>
      rw [hx] at e1; cases e1
      have hp : (frz 0 h y).pure = true := pureL_iff.1 ha _ (by rw [frzL_map]; exact List.mem_map_of_mem (List.mem_of_getElem? hx))
      simpa using frz_rep hh 0 (hl.2 j y u hx e2) (by rw [pure_refs _ hp]; exact Nat.le_refl _)
  refine (c [] X w [] vs h0 hl0).mono ?_
  rintro e w' ⟨h', bs', a, x, w1, hr, f, rep, (⟨he, hw, e1, e2⟩ | ⟨_, _, e1, _⟩)⟩
  · cases e1; subst e2; subst hw
    have hb : Go.RowKit.Below w.heap.size w w' := ⟨f.os, f.tape, f.output, f.size, fun b hb => f.far b hb (by simp)⟩
    have ff := Fr.of_below hb h bs
    exact ⟨h, bs, _, x, w', hh.below ff fun b hb2 => hb.block b hb2, ff, rep.scal hs, .inl ⟨he, rfl, rfl, rfl⟩⟩
  · cases e1
end
end Go.Pe
