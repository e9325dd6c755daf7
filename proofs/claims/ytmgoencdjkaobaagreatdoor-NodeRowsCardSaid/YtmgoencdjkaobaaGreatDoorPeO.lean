/- Arguments, as they are handed over, are values of the calculus. No program in sight; no conditions. -/
import Derived.Test.YtmgoencdjkaobaaGreatDoorPeP
import Derived.ChangeArms
import Derived.ChangeMaps5
import Derived.Carry
import Derived.WideShapes
import Derived.Lib.LaidTab
import Derived.Handed
import Derived.SizedLaws
set_option linter.unusedVariables false
set_option linter.unusedSimpArgs false
namespace Go.Pe
/-- No memory is anyone's own. -/
def X0 : Env := ⟨fun _ => False, 0, none⟩
theorem choose_list {α : Type} : ∀ {n : Nat} {p : Nat → α → Prop}, (∀ i, i < n → ∃ x, p i x) → ∃ l : List α, l.length = n ∧ ∀ (i : Nat) (hi : i < l.length), p i l[i]
  | 0, _, _ => ⟨[], rfl, fun i hi => by simp at hi⟩
  | n + 1, p, h => by
    obtain ⟨l, h1, h2⟩ := choose_list (n := n) (p := p) fun i hi => h i (by omega)
    obtain ⟨x, hx⟩ := h n (by omega)
    refine ⟨l ++ [x], by simp [h1], fun i hi => ?_⟩
    by_cases h3 : i < l.length
    · rw [List.getElem_append_left h3]; exact h2 i h3
    · simp at hi
      have : i = n := by omega
      subst this
      rw [List.getElem_append_right (by omega)]; simpa [h1] using hx
/-- The cells hold the fields. -/
def CellsAs (w : World) (fs : List AV) (cs : List Value) : Prop := cs.length = fs.length ∧ ∀ (k : Nat) (y : AV), fs[k]? = some y → ∃ v, cs[k]? = some v ∧ Rep X0 w [] [] y v
section
variable {H : Type} {enc : TypeId × Value → H} {P : Program} {w : World} {sp : Nat → Bool} {held : Bool}
theorem str_of_trod {t : TypeId} {m : Nat} {cs : List Value} {x : DataW H × List MemPlace} (ht : P.underlying t = some .string) (h : DataW.trod enc P w 0 sp held m t cs = some x) : ∃ (s : Str) (v : Value), cs = [v] ∧ Rep X0 w [] [] (.str s) v ∧ s.length ≤ maxLen := by
  obtain ⟨s, rfl, _, hs⟩ := DataW.trod_string ht h
  refine ⟨s.data.toList, _, rfl, ?_, hs⟩
  have := Rep.str (X := X0) (w := w) (h := []) (bs := []) s.data.toList
  simpa using this
theorem int_of_trod {t : TypeId} {k : IntKind} {m : Nat} {cs : List Value} {x : DataW H × List MemPlace} (ht : P.underlying t = some (.int k)) (h : DataW.trod enc P w 0 sp held m t cs = some x) : ∃ (n : Int) (v : Value), cs = [v] ∧ Rep X0 w [] [] (.int k n) v ∧ (Lit.int k n).wf = true := by
  obtain ⟨n, rfl, _, hn⟩ := DataW.trod_int ht h
  exact ⟨n, _, rfl, .int _ _, hn⟩
theorem bool_of_trod {t : TypeId} {m : Nat} {cs : List Value} {x : DataW H × List MemPlace} (ht : P.underlying t = some .bool) (h : DataW.trod enc P w 0 sp held m t cs = some x) : ∃ (b : Bool) (v : Value), cs = [v] ∧ Rep X0 w [] [] (.bool b) v := by
  obtain ⟨b, rfl, _⟩ := DataW.trod_bool ht h
  exact ⟨b, _, rfl, .bool _⟩
theorem struct_of_trod {t : TypeId} {fs : Array Field} {m : Nat} {cs : List Value} {x : DataW H × List MemPlace} (ht : P.underlying t = some (.struct fs)) (hf : ∀ (i : Nat) (f : Field), fs[i]? = some f → f.offset = i ∧ P.cellsOf f.type = 1) (h : DataW.trod enc P w 0 sp held m t cs = some x) :
    cs.length = P.cellsOf t ∧ ∀ (i : Nat) (f : Field), fs[i]? = some f → ∃ (k : Nat) (y : DataW H × List MemPlace), DataW.trod enc P w 0 sp held k f.type ((cs.drop i).take 1) = some y := by
  obtain ⟨xs, n, _, _, h1, h2, h3⟩ := DataW.trod_struct ht h
  refine ⟨h1, fun i f hi => ?_⟩
  have h4 := h3 i f hi
  obtain ⟨e1, e2⟩ := hf i f hi
  rw [e1, e2] at h4
  have : i < xs.length := by rw [h2]; exact (Array.getElem?_eq_some_iff.1 hi).1
  exact ⟨n, xs[i], by rw [h4, List.getElem?_eq_getElem this]⟩
theorem sl_of_trod {α : Type} {f : α → AV} {Q : α → Prop} {sz m : Nat} {e t : TypeId} {cs : List Value} {x : DataW H × List MemPlace} (ht : P.underlying t = some (.slice e)) (hc : P.cellsOf e = sz) (hsz : 0 < sz)
    (hf : ∀ a, (f a).cells.length = sz ∧ (f a).pure = true ∧ ∀ y ∈ (f a).cells, y.one = true)
    (he : ∀ k cs y, DataW.trod enc P w 0 sp held k e cs = some y → ∃ a, CellsAs w (f a).cells cs ∧ Q a)
    (h : DataW.trod enc P w 0 sp held m t cs = some x) : ∃ (l : List α) (v : Value), cs = [v] ∧ Rep X0 w [] [] (.sl sz (l.map f)) v ∧ l.length ≤ maxLen ∧ ∀ a ∈ l, Q a := by
  rcases DataW.trod_slice ht h with ⟨rfl, _⟩ | ⟨a, len, cap, elems, rest, n, _, rfl, _, hb, hlc, hcm, hel, hall, _⟩
  · exact ⟨[], _, rfl, .slE sz none 0, by simp, by simp⟩
  · have key : ∀ i, i < len → ∃ b, (∃ cs, CellsAs w (f b).cells cs ∧ ∀ k, k < sz → w.cell? ((a.add (i * sz)).add k) = cs[k]?) ∧ Q b := by
      intro i hi
      have h1 := hall i hi
      rw [hc, List.getElem?_eq_getElem (by omega)] at h1
      obtain ⟨cs, h2, h3⟩ := Option.bind_eq_some_iff.1 h1
      obtain ⟨b, h4, h5⟩ := he _ _ _ h3
      exact ⟨b, ⟨cs, h4, (World.cells?_some h2).2.2⟩, h5⟩
    obtain ⟨l, hl, hq⟩ := choose_list key
    refine ⟨l, _, rfl, ?_, by omega, fun b hb => by obtain ⟨i, hi, rfl⟩ := List.getElem_of_mem hb; exact (hq i hi).2⟩
    by_cases hz : len = 0
    · have : l = [] := List.eq_nil_of_length_eq_zero (by omega)
      subst this; subst hz
      exact .slE sz (some a) cap
    · have hcell : ∀ (j : Nat) (b : α) (k : Nat) (y : AV), l[j]? = some b → (f b).cells[k]? = some y → ∃ v, w.cell? ((a.add (j * sz)).add k) = some v ∧ Rep X0 w [] [] y v := by
        intro j b k y h1 h2
        obtain ⟨hj, rfl⟩ := List.getElem?_eq_some_iff.1 h1
        obtain ⟨⟨cs, ⟨h3, h4⟩, h5⟩, _⟩ := hq j hj
        obtain ⟨v, h6, h7⟩ := h4 k y h2
        have hk : k < sz := by rw [← (hf l[j]).1]; exact (List.getElem?_eq_some_iff.1 h2).1
        exact ⟨v, (h5 k hk).trans h6, h7⟩
      have hspot : a.spot = none ∧ a.block < w.heap.size := by
        have h0 : 0 < l.length := by omega
        have hk : 0 < (f l[0]).cells.length := by rw [(hf _).1]; exact hsz
        obtain ⟨v, hv, _⟩ := hcell 0 l[0] 0 _ (List.getElem?_eq_getElem h0) (List.getElem?_eq_getElem hk)
        simp only [Nat.zero_mul, Addr.add, if_true] at hv
        unfold World.cell? at hv
        split at hv
        · rename_i hh
          split at hv
          · cases hv
          · rename_i hs
            exact ⟨by simpa using hs, (Array.getElem?_eq_some_iff.1 hh).1⟩
        · cases hv
      obtain ⟨b, off, spot⟩ := a
      obtain ⟨h1, h2⟩ := hspot
      simp only at h1 h2; subst h1
      have hadd : ∀ j k, ((⟨b, off, none⟩ : Addr).add (j * sz)).add k = ⟨b, off + (j * sz + k), none⟩ := by
        intro j k
        unfold Addr.add
        split <;> split <;> simp_all [Nat.add_assoc]
      have hget : ∀ (j : Nat) (x : AV), (l.map f)[j]? = some x → ∃ c, l[j]? = some c ∧ x = f c := by
        intro j x e
        rw [List.getElem?_map] at e
        cases hq : l[j]? with
        | none => rw [hq] at e; cases e
        | some c => rw [hq] at e; cases e; exact ⟨c, rfl, rfl⟩
      have hnil : l.map f ≠ [] := by
        intro e
        have : l = [] := by simpa using e
        subst this; simp at hl; omega
      have := Rep.sl (X := X0) (w := w) (h := []) (bs := []) sz (l.map f) b off cap (fun j k => (w.cell? ⟨b, off + (j * sz + k), none⟩).getD undef) hnil
        (by rw [pureL_map]; exact fun c _ => (hf c).2.1) (by simp; omega) hcm h2 (fun h => h) (by simp)
        (fun x hx => by obtain ⟨c, _, rfl⟩ := List.mem_map.1 hx; exact ⟨(hf c).1, (hf c).2.2⟩)
        (fun j x k y e1 e2 => by
          obtain ⟨c, h3, rfl⟩ := hget j x e1
          obtain ⟨v, h4, _⟩ := hcell j c k y h3 e2
          rw [hadd] at h4
          rw [h4]; rfl)
        (fun j x k y e1 e2 => by
          obtain ⟨c, h3, rfl⟩ := hget j x e1
          obtain ⟨v, h4, h5⟩ := hcell j c k y h3 e2
          rw [hadd] at h4
          rw [h4]; exact h5)
      simpa [hl] using this
theorem rows_of_trod {α : Type} {f : α → AV} {Q : α → Prop} {sz : Nat} {e t : TypeId} {v : Value} {d : DataW H} {ps : List MemPlace} {r : Reach} {b0 : Nat} (ht : P.underlying t = some (.slice e)) (hc : P.cellsOf e = sz) (hsz : 0 < sz)
    (hf : ∀ a, (f a).cells.length = sz ∧ (f a).pure = true ∧ ∀ y ∈ (f a).cells, y.one = true)
    (he : ∀ k cs y, DataW.trod enc P w 0 sp held k e cs = some y → ∃ a, CellsAs w (f a).cells cs ∧ Q a)
    (hval : Value.okWide P w r b0 t v) (h : DataW.Trod enc P w 0 sp held t v d ps) : ∃ l : List α, Rep X0 w [] [] (.sl sz (l.map f)) v ∧ ∀ a ∈ l, Q a := by
  obtain ⟨a, len, cap, rfl⟩ := WideShapes.okWide_slice ht hval
  obtain ⟨m, hm⟩ := h
  obtain ⟨l, v, e1, e2, e3, e4⟩ := sl_of_trod ht hc hsz hf he hm
  have e1 : v = .slice a len cap := by
    have : (Value.slice a len cap).cells.toList = [Value.slice a len cap] := rfl
    rw [this] at e1
    injection e1 with e1 _
    exact e1.symm
  subst e1
  exact ⟨l, e2, e4⟩
theorem text_of_trod {t : TypeId} {v : Value} {d : DataW H} {ps : List MemPlace} {r : Reach} {b0 : Nat} (ht : P.underlying t = some .string) (hval : Value.okWide P w r b0 t v) (h : DataW.Trod enc P w 0 sp held t v d ps) : ∃ s : Str, Rep X0 w [] [] (.str s) v := by
  obtain ⟨s, rfl, _⟩ := ChangeMaps.open_string ht hval h
  refine ⟨s.data.toList, ?_⟩
  have := Rep.str (X := X0) (w := w) (h := []) (bs := []) s.data.toList
  simpa using this
end
/-- Behind a call that has turned nothing of what there was, arguments read as they did. -/
theorem args_below {H : Type} {enc : TypeId × Value → H} {P : Program} (hl : laidOutB P = true) {W W' : World} (hb : Go.RowKit.Below W.heap.size W W') :
    ∀ {ts : List TypeId} {vs : List Value} {ds : List (DataW H)} {ps : List MemPlace}, (ts.all fun t => P.readableRec t && decide (t < P.types.size)) = true → (∀ x ∈ ps, x.block < W.heap.size) →
      DataW.TrodAll enc P W 0 (fun _ => true) true ts vs ds ps → DataW.TrodAll enc P W' 0 (fun b => decide (b < W.heap.size)) true ts vs ds ps
  | [], [], [], _, _, _, h => h
  | [], [], _ :: _, _, _, _, h => h.elim
  | [], _ :: _, _, _, _, _, h => h.elim
  | _ :: _, [], _, _, _, _, h => h.elim
  | _ :: _, _ :: _, [], _, _, _, h => h.elim
  | t :: ts, v :: vs, d :: ds, ps, ht, hlt, h => by
    obtain ⟨p, q, h1, h2, rfl⟩ := h
    simp only [List.all_cons, Bool.and_eq_true, decide_eq_true_eq] at ht
    exact ⟨p, q, Go.RowKit.Below.trod hl ht.1.1 ht.1.2 h1 hb (fun x hx => hlt x (List.mem_append_left _ hx)), args_below hl hb (by simpa using ht.2) (fun x hx => hlt x (List.mem_append_right _ hx)) h2, rfl⟩
/-- A law's row, out of its function's contract. -/
theorem law_calls [Glob] {H : Type} {enc : TypeId × Value → H} {P : Program} {s : ChangeSpec} {fn : Func} {f : FuncId} {tb : TypeId} {avs : List AV} {W : World} {args : Array Value} {ds gs : List (DataW H)} {before : List MemPlace}
    (hl : laidOutB P = true) (hts : (fn.params.toList.all fun t => P.readableRec t && decide (t < P.types.size)) = true) (hres : fn.resultTypes = #[tb]) (hb : P.underlying tb = some .bool) (hvars : s.vars = [])
    (hW : DataW.Whole enc P fn.params.toList s.vars false W args.toList ds gs before) (hfn : s.fn H ds = { results := [.lit (.bool true)], args := ds })
    (hv : V P f avs (.ret (.bool true))) (hh : HeapRel X0 W [] []) (hr : RepL X0 W [] [] avs args.toList) :
    Calls P f args W fun e W' => ∃ v, e = .returned v ∧ s.post enc P fn false true false false W args v W' := by
  have hc := hv [] X0 W [] args.toList hh hr
  have e0 : args.toList.toArray = args := by simp
  rw [e0] at hc
  refine hc.mono ?_
  rintro e W' ⟨h', bs', a, x, w1, hr1, fr, rep, (⟨he, hw, e1, e2⟩ | ⟨_, _, e1, _⟩)⟩
  · cases e1; subst hw
    have hx : x = .bool true := by cases rep; rfl
    subst hx; subst he
    have hbe : Go.RowKit.Below W.heap.size W W' := ⟨fr.os, fr.tape, fr.output, fr.size, fun b hb => fr.far b hb (by simp)⟩
    have hlt := hW.lt
    have hW' := hW
    obtain ⟨p, q, hA, hV, rfl, _, _⟩ := hW
    have hg : gs = [] ∧ q = [] := by
      rw [hvars] at hV
      cases gs with
      | nil => exact ⟨rfl, hV⟩
      | cons => exact hV.elim
    obtain ⟨rfl, rfl⟩ := hg
    refine ⟨_, rfl, ds, [], _, [], p, [], hW', ?_, ?_, ?_, hbe.frame _, fun h => by cases h⟩
    · rw [List.append_nil, hfn, hres]
      exact ⟨[], [], ⟨1, by simp [DataW.trod, hb, Value.cells, Value.resultList]⟩, rfl, rfl⟩
    · rw [List.append_nil, hfn]
      exact args_below hl hbe hts (fun x hx => hlt x (by simpa using hx)) hA
    · rw [hvars]; exact by rw [List.append_nil, hfn]; rfl
  · cases e1
/-- What a list of laid variables tells of one. -/
theorem laid_at {P : Program} {w : World} : ∀ {l : List (String × DataW Unit)} {ps : List MemPlace}, DataW.LaidVars P w l ps → ∀ {n : String} {d : DataW Unit}, (n, d) ∈ l →
    ∃ g t cs fuel p, P.globalNamed n = some g ∧ (P.globals[g]?).map (·.type) = some t ∧ w.var? P n = some cs ∧ DataW.trod (fun _ => ()) P w 0 (fun _ => true) false fuel t cs.toList = some (d, p)
  | [], _, _, _, _, hm => by cases hm
  | (m, e) :: r, ps, h, n, d, hm => by
    obtain ⟨g, t, cs, fuel, p, q, h1, h2, h3, h4, h5, _⟩ := h
    rcases List.mem_cons.1 hm with q | q
    · cases q; exact ⟨g, t, cs, fuel, p, h1, h2, h3, h4⟩
    · exact laid_at h5 q
theorem tab_at {P : Program} {w : World} {l : List (String × DataW Unit)} {name : String} {k : IntKind} {zs : List Int} {g : Nat} {t e : TypeId} {n : Nat} (hL : laidMet P l w) (hm : (name, Lib.tabData k zs) ∈ l)
    (hg : P.globalNamed name = some g) (hty : (P.globals[g]?).map (·.type) = some t) (ht : P.underlying t = some (.array n e)) (he : P.underlying e = some (.int k)) (hce : P.cellsOf e = 1) (hct : P.cellsOf t = n) : Lib.TabIs P w name k zs := by
  obtain ⟨ps, hv, _⟩ := hL
  obtain ⟨g', t', cs, fuel, p, hg', ht', hvar, hd⟩ := laid_at hv hm
  obtain rfl := Option.some.inj (hg.symm.trans hg')
  obtain rfl := Option.some.inj (hty.symm.trans ht')
  unfold Lib.TabIs
  rw [hvar, ← Lib.cells_of_tab ht he hce hct hd]
theorem iface_at {P : Program} {w : World} {l : List (String × DataW Unit)} {name ty : String} {d : DataW Unit} {g : Nat} {t : TypeId} {ms : Array (String × TypeId)} (hL : laidMet P l w) (hm : (name, .iface ty d) ∈ l)
    (hg : P.globalNamed name = some g) (hty : (P.globals[g]?).map (·.type) = some t) (ht : P.underlying t = some (.interface ms)) : ∃ u v, w.cell? ⟨g, 0, none⟩ = some (.iface u v) := by
  obtain ⟨ps, hv, _⟩ := hL
  obtain ⟨g', t', cs, fuel, p, hg', ht', hvar, hd⟩ := laid_at hv hm
  obtain rfl := Option.some.inj (hg.symm.trans hg')
  obtain rfl := Option.some.inj (hty.symm.trans ht')
  have hcell := World.var?_cell hg hvar 0
  cases fuel with
  | zero => simp [DataW.trod] at hd
  | succ k =>
    unfold DataW.trod at hd
    rw [ht] at hd
    split at hd <;> simp_all
    rename_i h2
    have h3 := congrArg (·[0]?) h2
    exact ⟨_, _, by simpa using h3⟩
/-- The wrap of a row that lists variables, the world's shape kept. -/
theorem returns_laid {H : Type} {enc : TypeId × Value → H} {a : Assume} {C : Checked} {os : Os} {f : FuncId} {fn : Func} {s : ChangeSpec} {conds : List PathCond} {apart fresh handsOn again : Bool} {X : World → Array Value → Prop}
    (hX : ∀ (w w' : World) (args : Array Value), w.heap = w'.heap → X w args → X w' args)
    (own : ownKnob C.prog.godebug = none) (started : os.Started) (noInit : C.prog.inits.idxOf? f = none) (hfn : C.prog.funcs[f]? = some fn)
    (witness : ∃ (w : World) (tape : Tape) (i : Input), w.os = os ∧ (w.forCall tape i).Shaped C.prog ∧ i.vars = [] ∧ Input.okWide C.prog (w.forCall tape i) .any w.heap.size f i ∧
      ((s.pre enc C.prog fn conds apart (w.forCall tape i).memory i.args ∧ X (w.forCall tape i).memory i.args) ∧ sizedMet enc C.prog fn (OpenSpec.ofChange s) apart (w.forCall tape i).memory i.args) ∧ a.holds C.prog (lone (Frame.enter C.prog f i.args .normal) [] (w.forCall tape i)))
    (contract : ∀ (W : World) (base : Nat) (args : Array Value) (ds gs : List (DataW H)) (before : List MemPlace),
      (∀ (j : Nat) t v, fn.params[j]? = some t → args[j]? = some v → Value.okWide C.prog W .any base t v) →
      DataW.Whole enc C.prog fn.params.toList s.vars apart W args.toList ds gs before → X W args → W.ShapedOpen C.prog →
      Calls C.prog f args W fun e W' => ∃ v, e = .returned v ∧ s.post enc C.prog fn apart fresh handsOn again W args v W') :
    ReturnsInHanded a C os f .any (fun w args => (s.pre enc C.prog fn conds apart w args ∧ X w args) ∧ sizedMet enc C.prog fn (OpenSpec.ofChange s) apart w args) (s.post enc C.prog fn apart fresh handsOn again) := by
  refine returnsInHanded_of_calls own started noInit witness ?_
  intro w tape i _ hsh _ hok hpre _
  obtain ⟨_, _, _, fn', hfn', _, _, _, _, hval⟩ := hok
  obtain rfl : fn' = fn := Option.some.inj (hfn'.symm.trans hfn)
  obtain ⟨⟨⟨ds, gs, before, hw, _⟩, hx⟩, _⟩ := hpre
  refine (contract (w.forCall tape i) w.heap.size i.args ds gs before hval (DataW.Whole.of_heap (w' := w.forCall tape i) (by rfl) hw) (hX _ _ _ (by rfl) hx) hsh).mono fun e W' ⟨v, he, hp⟩ => ?_
  subst he
  exact ChangeSpec.post_blind hp
end Go.Pe
