/- Functions of the calculus 'Pe': what is handed back, what the caller's objects have to do with it, contracts out of compact code. No program in sight; no conditions. -/
import Derived.Test.YtmgoencdjkaobaaGreatDoorPeG
set_option linter.unusedVariables false
set_option linter.unusedSimpArgs false
namespace Go.Pe

/-- Where a result lies: in a temporary, or in memory. -/
inductive RV where
  | t (n : Nat)
  | c (a : Nat) (ag : Bool) (n : Nat)
/-- What a function hands back. -/
def resK (h : List AObj) (tm : List (Nat × AV)) : List RV → (List AV → Prop) → Prop
  | [], K => K []
  | .t n :: r, K => resK h tm r fun l => K (lk tm n :: l)
  | .c a ag n :: r, K => aval h tm (.load ag n (.t a)) fun v => resK h tm r fun l => K (v :: l)
def tupV : List AV → AV
  | [v] => v
  | l => .tup l
def resC (P : Program) : List ResultVar → Option (List RV)
  | [] => some []
  | .tmp t :: r => (resC P r).map (.t t :: ·)
  | .cell a t :: r => match agOf P t, resC P r with
    | some (ag, n), some l => some (.c a ag n :: l)
    | _, _ => none
/-- How a function's code ends: N objects are kept. -/
def endQ (base : Nat) (R : Out → List AObj → Prop) (mk : AV → Out) (h : List AObj) (v : AV) : Prop :=
  ∃ N, (base ≤ N ∧ N ≤ h.length ∧ (∀ ob ∈ h.take N, ob.pur = true ∨ refsL ob.xs ≤ N) ∧ (frz N h v).refs ≤ N) ∧ R (mk (frz N h v)) (h.take N)
def retQ (rs : List RV) (base : Nat) (R : Out → List AObj → Prop) : AEx → St → Prop
  | .norm, s | .ret, s => resK s.h s.tm rs fun l => endQ base R .ret s.h (tupV l)
  | .pan v, s => endQ base R .pan s.h v
  | .exit _, _ => False
def argT : Nat → List AV → List (Nat × AV)
  | _, [] => []
  | n, x :: r => (n, x) :: argT (n + 1) r
theorem lk_argT : ∀ (l : List AV) (n t : Nat), lk (argT n l) t = if n ≤ t then l.getD (t - n) .any else .any
  | [], n, t => by simp [argT, lk]
  | x :: r, n, t => by
    simp only [argT, lk]
    split
    · rename_i e; subst e; simp
    · rename_i e
      rw [lk_argT r (n + 1) t]
      by_cases h : n ≤ t
      · rw [if_pos (by omega), if_pos h, show t - n = (t - (n + 1)) + 1 by omega]; rfl
      · rw [if_neg (by omega), if_neg h]

section
variable [Glob] {P : Program}
omit [Glob] in
theorem resK_mono {h : List AObj} {tm : List (Nat × AV)} : ∀ {rs : List RV} {K K' : List AV → Prop}, (∀ l, K l → K' l) → resK h tm rs K → resK h tm rs K'
  | [], K, K', hm, k => hm _ k
  | .t n :: r, K, K', hm, k => resK_mono (rs := r) (fun l h => hm _ h) k
  | .c a ag n :: r, K, K', hm, k => aval_mono k fun v h => resK_mono (rs := r) (fun l h => hm _ h) h
def resF (tmps : Array Value) : ResultVar → Sem Value
  | .tmp t => pure (tmps.getD t undef)
  | .cell a t => do loadVar t (← asAddr (tmps.getD a undef))
omit [Glob] in
theorem results_eq (fn : Func) (tmps : Array Value) : results fn tmps = (do
    let vs ← fn.results.mapM (resF tmps)
    pure (if h : vs.size = 1 then vs[0] else .tuple vs)) := by
  unfold results
  congr 1
theorem load_cell {X : Env} {lo : Option Nat} {w : World} {a : Act} {bs : List (Option Nat)} {s : St} {t : TypeId} {ag : Bool} {n a0 : Nat} {K : AV → Prop} (ht : agOf P t = some (ag, n)) (r : StRel X lo w a bs s) (k : aval s.h s.tm (.load ag n (.t a0)) K) :
    ∃ v x, (do loadVar t (← asAddr (a.tmps.getD a0 undef)) : Sem Value).run P w = .ok x w ∧ Rep X w s.h bs v x ∧ K v := by
  let o : Oper := { (default : Oper) with op := .load t (.tmp a0) }
  obtain ⟨v, x, h1, h2, h3⟩ := y_load (o := o) (x := .tmp a0) ht rfl rfl r k
  refine ⟨v, x, ?_, h2, h3⟩
  have e : a.eval (.tmp a0) = a.tmps.getD a0 undef := rfl
  simp only [execOp, o, Instr.loadAt] at h1
  rw [e] at h1
  generalize a.tmps.getD a0 undef = p at h1 ⊢
  cases p <;> try (simp [Instr.sureAddr, stuck] at h1; done)
  rename_i q
  cases q with
  | none => simp [Instr.sureAddr, stuck] at h1
  | some ad =>
    simp only [Instr.sureAddr, asAddr, Sem.run_bind, Sem.run_pure, Result.andThen_ok] at h1 ⊢
    cases hq : (loadVar t ad).run P w with
    | ok y w' => rw [hq] at h1; simp at h1; rw [h1.1, h1.2]
    | halt y w' => rw [hq] at h1; simp at h1
theorem res_sound {X : Env} {lo : Option Nat} {w : World} {a : Act} {bs : List (Option Nat)} {s : St} (r : StRel X lo w a bs s) 
      :
    ∀ (l : List ResultVar) (rs : List RV) (K : List AV → Prop), resC P l = some rs → resK s.h s.tm rs K → ∃ vs avs, (l.mapM (resF a.tmps)).run P w = .ok vs w ∧ RepL X w s.h bs avs vs ∧ K avs
  | [], rs, K, h, k => by
    simp only [resC, Option.some.injEq] at h; subst h
    exact ⟨[], [], by simp, ⟨rfl, by simp⟩, k⟩
  | .tmp t :: l, rs, K, h, k => by
    simp only [resC] at h
    cases hr : resC P l with
    | none => rw [hr] at h; cases h
    | some rs' =>
      rw [hr] at h; cases h
      obtain ⟨vs, avs, h1, ⟨h2, h3⟩, h4⟩ := res_sound r l rs' _ hr k
      refine ⟨a.tmps.getD t undef :: vs, lk s.tm t :: avs, ?_, ⟨by simp [h2], fun j x v e1 e2 => ?_⟩, h4⟩
      · simp only [List.mapM_cons, Sem.run_bind, resF, Sem.run_pure, Result.andThen_ok, h1]
      · cases j with
        | zero => simp only [List.getElem?_cons_zero, Option.some.injEq] at e1 e2; subst e1 e2; exact r.tm t
        | succ j => simp only [List.getElem?_cons_succ] at e1 e2; exact h3 j x v e1 e2
  | .cell a0 t :: l, rs, K, h, k => by
    simp only [resC] at h
    split at h
    · rename_i ag n rs' ht hr
      cases h
      obtain ⟨v, x, p1, p2, p3⟩ := load_cell ht r k
      obtain ⟨vs, avs, h1, ⟨h2, h3⟩, h4⟩ := res_sound r l rs' _ hr p3
      refine ⟨x :: vs, v :: avs, ?_, ⟨by simp [h2], fun j x v e1 e2 => ?_⟩, h4⟩
      · simp only [List.mapM_cons, resF]
        rw [Sem.run_bind, p1]
        simp only [Result.andThen_ok, Sem.run_bind, h1, Sem.run_pure]
      · cases j with
        | zero => simp only [List.getElem?_cons_zero, Option.some.injEq] at e1 e2; subst e1 e2; exact p2
        | succ j => simp only [List.getElem?_cons_succ] at e1 e2; exact h3 j x v e1 e2
    · cases h
theorem run_results {X : Env} {lo : Option Nat} {w : World} {a : Act} {bs : List (Option Nat)} {s : St} {fn : Func} {rs : List RV} {K : List AV → Prop} (hr : resC P fn.results.toList = some rs) (r : StRel X lo w a bs s) (k : resK s.h s.tm rs K) :
    ∃ x avs, (results fn a.tmps).run P w = .ok x w ∧ Rep X w s.h bs (tupV avs) x ∧ K avs := by
  rw [results_eq]
  simp only [Array.mapM_eq_mapM_toList, Sem.run_bind]
  have e : ∀ (m : Sem (List Value)) (l : List Value), m.run P w = .ok l w → (List.toArray <$> m).run P w = .ok l.toArray w := by
    intro m l h
    simp [h]
  obtain ⟨vs, avs, h1, ⟨h2, h3⟩, h4⟩ := res_sound r fn.results.toList rs K hr k
  rw [e _ _ h1]
  simp only [Result.andThen_ok, Sem.run_pure]
  refine ⟨_, avs, rfl, ?_, h4⟩
  match vs, avs, h2, h3 with
  | [], [], _, _ => exact .tup [] #[] rfl (by simp)
  | [x], [v], _, h3 => exact h3 0 v x rfl rfl
  | x :: y :: vs, v :: u :: avs, h2, h3 => exact .tup _ _ (by simpa using h2) fun j x v e1 e2 => h3 j x v e1 (by simpa using e2)

theorem Marks.poke {lo : Option Nat} {w : World} {bs : List (Option Nat)} {D : Nat} {o : Obj} : ∀ {ds : List Deferred}, (∀ d' ∈ ds, d' ≠ { target := .collected D, args := #[] }) → Marks lo w bs ds → Marks lo (w.putObj D o) bs ds
  | [], _, _ => trivial
  | d :: ds, hd, ⟨⟨D', h1, h2, h3, h4⟩, m⟩ => by
    have hne : D' ≠ D := fun e => hd d (List.mem_cons_self ..) (by rw [h1, e])
    exact ⟨⟨D', h1, h2, by rw [World.putObj_heap_other hne]; exact h3, h4⟩, m.poke fun d' hd' => hd d' (List.mem_cons_of_mem _ hd')⟩
theorem leaves_marks {lo : Nat} {bs : List (Option Nat)} {fn : Func} {tmps : Array Value} {R : Ending → World → Prop} {u : FrameMode} {S : World → Prop} (hu : u ≠ .run)
    (hp : ∀ (w : World) (D : Nat), S w → w.heap[D]? = some (.deferred (some [])) → lo ≤ D → S (w.putObj D (.deferred none))) (hS : ∀ w, S w → LeavesInM Fence.wide 0 P fn tmps R [] u w) :
    ∀ (ds : List Deferred) (w : World), Marks (some lo) w bs ds → S w → LeavesInM Fence.wide 0 P fn tmps R ds u w
  | [], w, _, h => hS w h
  | d :: ds, w, ⟨⟨D, h1, ⟨_, n, h2, h2'⟩, h3, h4, h5⟩, m⟩, h => by
    cases h2
    exact ⟨hu, .inl ⟨D, _, by rw [h1], run_takeDeferred h3, leaves_marks hu hp hS ds _ (m.poke fun d' hd' e => h5 d' hd' (e.trans h1.symm)) (hp w D h h3 h2')⟩⟩
theorem HeapRel.poke {X : Env} {w : World} {h : List AObj} {bs : List (Option Nat)} (r : HeapRel X w h bs) {D : Nat} {ds : Option (List Deferred)} (o' : Obj) (hD : w.heap[D]? = some (.deferred ds)) (hn : Glob.n ≤ D) : HeapRel X (w.putObj D o') h bs := by
  refine ⟨r.len, r.inj, r.notX, fun b hb => by simpa using r.Xlt b hb, r.pur, r.shape, r.nil, fun o ob b e1 e2 => ?_, ⟨laid_poke hn r.gl.laid, by simpa using r.gl.size, r.gl.own⟩, r.ev, r.yN, fun l rc tm e => ?_⟩
  · obtain ⟨C, hC, hs, hx⟩ := r.lies o ob b e1 e2
    exact ⟨C, putObj_cells hD rfl hC, hs, fun j x k y g1 g2 => (hx j x k y g1 g2).imp fun v hv => ⟨hv.1, hv.2.poke hD rfl⟩⟩
  · obtain ⟨⟨y1, y2⟩, y3, y4⟩ := r.yR l rc tm e
    have hne : l ≠ D := by rintro rfl; rw [hD] at y1; cases y1
    exact ⟨⟨by rw [World.putObj_heap_other hne]; exact y1, y2⟩, y3, fun t => ⟨(y4 t).1, (y4 t).2.poke hD rfl⟩⟩
theorem VH_of_awp {f : FuncId} {fn : Func} {c : Code} {rs : List RV} {args : List AV} {h : List AObj} {R : Out → List AObj → Prop} (hf : P.funcs[f]? = some fn) (hb : fn.body = some c) (hr : resC P fn.results.toList = some rs) (hn : args.length ≤ fn.ntmps)
    (k : Awp P c (Qn fn.ntmps (retQ rs h.length R)) ⟨fn.ntmps, h.length, argT 0 args, h⟩) : VH P f args h R := by
  intro X w bs vs hh hl
  obtain ⟨l1, l2⟩ := hl
  have hst : StRel X (some w.heap.size) w { tmps := vs.toArray ++ Array.replicate (fn.ntmps - vs.toArray.size) undef, defers := [] } bs ⟨fn.ntmps, h.length, argT 0 args, h⟩ := by
    refine ⟨hh, by simp; omega, fun t => ?_, trivial, hh.yN⟩
    show Rep X w h bs (lk (argT 0 args) t) _
    rw [lk_argT, if_pos (Nat.zero_le _), Nat.sub_zero]
    cases hx : args[t]? with
    | none => rw [List.getD_eq_getElem?_getD, hx]; exact .any _
    | some x =>
      have ht : t < vs.length := by rw [l1]; exact (List.getElem?_eq_some_iff.1 hx).1
      rw [List.getD_eq_getElem?_getD, hx, Array.getD_eq_getD_getElem?, Array.getElem?_append_left (by simpa using ht)]
      have := l2 t x vs[t] hx (List.getElem?_eq_getElem ht)
      simpa [ht] using this
  refine calls_of_wpR hf hb (wpR_mono (k X (some w.heap.size) w h bs w _ bs hst (Fr.refl ..) (Nat.le_refl _) none (.inl ⟨rfl, rfl⟩)) ?_)
  have fin : ∀ (mk : AV → Out) (v : AV) (x : Value) (w' : World) (h' : List AObj) (bs' : List (Option Nat)), HeapRel X w' h' bs' → Fr w h bs w' h' bs' → Rep X w' h' bs' v x → endQ h.length R mk h' v →
      ∃ h' bs' v, HeapRel X w' h' bs' ∧ Fr w h bs w' h' bs' ∧ Rep X w' h' bs' v x ∧ R (mk v) h' := by
    rintro mk v x w' h' bs' r f rv ⟨N, ⟨n1, n2, n3, n4⟩, q⟩
    exact ⟨_, _, _, r.take N (Nat.le_trans hh.yN n1) n3, f.take N n1, frz_rep r N rv n4, q⟩
  have hgn := hh.gl.size
  have ret : ∀ (s : St) (a : Act) (w' : World) (bs' : List (Option Nat)), (resK s.h s.tm rs fun l => endQ h.length R .ret s.h (tupV l)) → StRel X (some w.heap.size) w' a bs' s → Fr w h bs w' s.h bs' → bodyPostM Fence.wide 0 P fn (post X w h bs R) .ret a w' := by
    intro s a w' bs' q r f
    refine leaves_marks (S := fun w' => StRel X (some w.heap.size) w' ⟨a.tmps, []⟩ bs' s ∧ Fr w h bs w' s.h bs') (by simp) ?_ ?_ a.defers w' r.df ⟨⟨r.heap, r.nt, r.tm, trivial, r.bn⟩, f⟩
    · rintro w1 D ⟨r1, f1⟩ hD hlo
      exact ⟨⟨r1.heap.poke _ hD (by omega), r1.nt, fun t => (r1.tm t).poke hD rfl, trivial, r1.bn⟩, f1.poke _ hD rfl hlo⟩
    · rintro w1 ⟨r1, f1⟩
      obtain ⟨x, avs, h1, h2, h3⟩ := run_results hr r1 q
      obtain ⟨h', bs2, v, p1, p2, p3, p4⟩ := fin .ret (tupV avs) x w1 s.h bs' r1.heap f1 h2 h3
      exact ⟨x, h1, h', bs2, v, x, w1, p1, p2, p3, .inl ⟨rfl, rfl, p4⟩⟩
  intro e a w' q
  cases e with
  | normal => obtain ⟨s, bs', ⟨_, q⟩, r, f, _⟩ := q; exact ret s a w' bs' q r f
  | ret => obtain ⟨s, bs', ⟨_, q⟩, r, f, _⟩ := q; exact ret s a w' bs' q r f
  | exit i => obtain ⟨s, bs', ⟨_, q⟩, r, f, _⟩ := q; exact q.elim
  | panic ch =>
    obtain ⟨v, x, h', bs', w1, hpk, rfl, q, p1, p2, p3, p4⟩ := q
    by_cases hd : a.defers = []
    · obtain ⟨h2, bs2, v2, p5, p6, p7, p8⟩ := fin .pan v x w1 h' bs' p1 p3 p2 q
      show LeavesInM Fence.wide 0 P fn a.tmps (post X w h bs R) a.defers _ w'
      rw [hd]
      exact ⟨h2, bs2, v2, x, w1, p5, p6, p7, .inr ⟨rfl, hpk, p8⟩⟩
    · have hw : w' = w1 := by
        cases hds : a.defers with
        | nil => exact absurd hds hd
        | cons d ds => rw [hds] at p4; obtain ⟨⟨_, _, ⟨he, _⟩, _⟩, _⟩ := p4; exact hpk.eq he
      subst hw
      refine leaves_marks (S := fun w' => (HeapRel X w' h' bs' ∧ Rep X w' h' bs' v x) ∧ Fr w h bs w' h' bs') (by simp) ?_ ?_ a.defers w' p4 ⟨⟨p1, p2⟩, p3⟩
      · rintro w1 D ⟨⟨r1, rv⟩, f1⟩ hD hlo
        exact ⟨⟨r1.poke _ hD (by omega), rv.poke hD rfl⟩, f1.poke _ hD rfl hlo⟩
      · rintro w1 ⟨⟨r1, rv⟩, f1⟩
        obtain ⟨h2, bs2, v2, p5, p6, p7, p8⟩ := fin .pan v x w1 h' bs' r1 f1 rv q
        exact ⟨h2, bs2, v2, x, w1, p5, p6, p7, .inr ⟨rfl, .inl rfl, p8⟩⟩
  | goto i => exact q.elim
  | outgrown => exact q.elim

theorem VH_of_aw {f : FuncId} {fn : Func} {c : Code} {hint ac : AC} {rs : List RV} {args : List AV} {h : List AObj} {R : Out → List AObj → Prop} (hf : P.funcs[f]? = some fn) (hb : fn.body = some c) (hr : resC P fn.results.toList = some rs) (hc : comp P fn.ntmps c hint = some ac) (hn : args.length ≤ fn.ntmps)
    (k : Aw P ac (retQ rs h.length R) ⟨fn.ntmps, h.length, argT 0 args, h⟩) : VH P f args h R := VH_of_awp hf hb hr hn (comp_sound c hint ac _ _ hc rfl k)

def Out.pure : Out → Bool
  | .ret v => v.pure
  | .pan v => v.pure
omit [Glob] in
/-- Of contracts of pure arguments those that hold while no loop over a function is gone round hold always. -/
theorem V_turn {G2 G1 : Glob} (ht : @Glob.top G1) (hn : G2.n = G1.n) (hl : G2.laid = G1.laid) {f : FuncId} {args : List AV} {o : Out} (ha : pureL args = true) (ho : o.pure = true) (k : @VH G1 P f args [] fun o' h' => o' = o ∧ h' = []) : @V G2 P f args o := by
  intro h X w bs vs hh hl'
  have hhc := hh
  obtain ⟨r1, r2, r3, r4, r5, r6, r7, r8, ⟨gl1, gl2, gl3⟩, hev, r10, r11⟩ := hhc
  have hlt : ∀ b, some b ∈ bs → b < w.heap.size := by
    intro b hb
    obtain ⟨j, hj⟩ := List.getElem?_of_mem hb
    have hi : j < h.length := by rw [← r1]; exact (List.getElem?_eq_some_iff.1 hj).1
    obtain ⟨C, hC, _⟩ := r8 j h[j] b (List.getElem?_eq_getElem hi) hj
    exact (Array.getElem?_eq_some_iff.1 hC).1
  have h0 : @HeapRel G1 (X.hide bs) w [] [] := by
    refine ⟨rfl, by simp, by simp, ?_, by simp, by simp, by simp, by simp, ⟨by rw [← hl]; exact gl1, by rw [← hn]; exact gl2, by simp⟩, (ht.2 _).2 ⟨rfl, rfl⟩, Nat.zero_le _, fun l r tm e => by cases e⟩
    rintro b (hb | hb)
    · exact r4 b hb
    · exact hlt b hb
  refine (k (X.hide bs) w [] vs h0 ⟨hl'.1, fun j x v e1 e2 => (hl'.2 j x v e1 e2).pure_hide (pureL_iff.1 ha x (List.mem_of_getElem? e1))⟩).mono ?_
  rintro e w' ⟨h', bs', v, x, w1, p1, p2, p3, p4⟩
  have hw : w' = w1 := by
    rcases p4 with ⟨_, h, _⟩ | ⟨_, h, _⟩
    · exact h
    · rcases h with h | ⟨l, _, _, h, _⟩
      · exact h
      · have := ht.1; rw [this] at h; cases h
  subst hw
  have hblk : ∀ b, b < w.heap.size → w'.heap[b]? = w.heap[b]? := fun b hb => p2.far b hb (by simp)
  have hb : Go.RowKit.Below w.heap.size w w' := ⟨p2.os, p2.tape, p2.output, p2.size, hblk⟩
  have hf := Fr.of_below hb h bs
  rcases p4 with ⟨he, _, h1, h2⟩ | ⟨he, _, h1, h2⟩
  · subst h1
    exact ⟨h, bs, v, x, w', @HeapRel.below G2 _ _ _ _ _ hh hf hblk, hf, p3.pure_show ho, .inl ⟨he, rfl, rfl, rfl⟩⟩
  · subst h1
    exact ⟨h, bs, v, x, w', @HeapRel.below G2 _ _ _ _ _ hh hf hblk, hf, p3.pure_show ho, .inr ⟨he, .inl rfl, rfl, rfl⟩⟩
theorem VH_nil {f : FuncId} {args : List AV} {o : Out} (v : V P f args o) : VH P f args [] fun o' h' => o' = o ∧ h' = [] := v []
theorem V.at {f : FuncId} {args : List AV} {o : Out} (v : V P f args o) (ht : Glob.top) (ha : pureL args = true) (ho : o.pure = true) (c : Nat × Loop × List (Nat × AV)) : @V (Glob.at P c) P f args o :=
  V_turn (G2 := Glob.at P c) ht rfl rfl ha ho (VH_nil v)
/-- No loop over a function is gone round: what a seat's own facts on its variables say of it. -/
class Top [Glob] : Prop where
  top : Glob.top
/-- What a call of pure arguments comes to over no objects, it comes to over any. -/
theorem V_of_vh [Top] {f : FuncId} {args : List AV} {o : Out} (ha : pureL args = true) (ho : o.pure = true) (k : VH P f args [] fun o' h' => o' = o ∧ h' = []) : V P f args o :=
  V_turn Top.top rfl rfl ha ho k

/-- How the code of a function with a pure contract ends. -/
def retV (rs : List RV) (o : Out) : AEx → St → Prop
  | .norm, s | .ret, s => resK s.h s.tm rs fun l => .ret (frz 0 s.h (tupV l)) = o
  | .pan v, s => .pan (frz 0 s.h v) = o
  | .exit _, _ => False
theorem V_of_aw [Top] {f : FuncId} {fn : Func} {c : Code} {hint ac : AC} {rs : List RV} {args : List AV} {o : Out} (hf : P.funcs[f]? = some fn) (hb : fn.body = some c) (hr : resC P fn.results.toList = some rs) (hc : comp P fn.ntmps c hint = some ac) (hn : args.length ≤ fn.ntmps)
    (ha : pureL args = true) (ho : o.pure = true) (k : Aw P ac (retV rs o) ⟨fn.ntmps, 0, argT 0 args, []⟩) : V P f args o := by
  refine V_of_vh ha ho (VH_of_awp hf hb hr hn ((comp_sound c hint ac _ _ hc rfl k).mono ?_))
  have fin : ∀ (mk : AV → Out) (h : List AObj) (v : AV), mk (frz 0 h v) = o → (mk (frz 0 h v)).pure = (frz 0 h v).pure → endQ 0 (fun o' h' => o' = o ∧ h' = []) mk h v := by
    intro mk h v e hp
    have : (frz 0 h v).pure = true := by rw [← hp, e]; exact ho
    exact ⟨0, ⟨Nat.le_refl _, Nat.zero_le _, by simp, by rw [pure_refs _ this]; exact Nat.le_refl _⟩, e, by simp⟩
  intro e s q
  cases e with
  | norm => exact ⟨q.1, resK_mono (fun l h => fin .ret _ _ h rfl) q.2⟩
  | ret => exact ⟨q.1, resK_mono (fun l h => fin .ret _ _ h rfl) q.2⟩
  | pan v => exact fin .pan _ _ q rfl
  | exit i => exact q.2.elim
end

end Go.Pe
