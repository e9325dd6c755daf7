/- Compact code of the calculus 'Pe': its rules, how it comes out of the model's code, that the rules are sound; functions. No program in sight; no conditions. -/
import Derived.Test.YtmgoencdjkaobaaGreatDoorPeR
set_option linter.unusedVariables false
set_option linter.unusedSimpArgs false
namespace Go.Pe

/-- Compact code. 'outs': the temporaries of which something is still wanted. -/
inductive AC where
  | skip
  | reg (ops : List AStp) (outs : List Nat)
  | seq (a b : AC)
  | cond (c : Opd) (l1 : List Nat) (a : AC) (l2 : List Nat) (b : AC)
  | block (id : Nat) (a : AC)
  | loop (outs : List Nat) (a : AC)
  | exit (id : Nat) (outs : List Nat)
  | ret (outs : List Nat)
  | scope (a : AC)
  | label (l : Nat)
  | regp (perm : List Nat) (ops : List AStp) (outs : List Nat)
  | rng (outs : List Nat) (g : Opd) (ps : List Nat) (a b : AC)
  deriving Inhabited

def proj (outs : List Nat) (s : St) : St := { s with tm := outs.map fun t => (t, lk s.tm t) }
def panQ (Q : AEx → St → Prop) (v : AV) (h : List AObj) : Prop := Q (.pan v) ⟨0, 0, [], h⟩
variable [Glob]
/-- A loop over a function: what its rounds come to (W: the round's walk, by yield's arguments, the objects, how it ends). -/
def rngA (P : Program) (n : Nat) (W : List AV → List AObj → (Out → List AObj → Prop) → Prop) (K : Out → List AObj → Prop) (h : List AObj) : AV → Prop
  | .fn gf cap => (Glob.top ∧ callOK P gf = true) ∧ ∀ c, (∀ (args : List AV) (h : List AObj) (R : Out → List AObj → Prop), noYL args = true → args.length = n → noYH h = true → W args h R → @VY (Glob.at P c) P args h R) →
      @VH (Glob.at P c) P gf (.yld :: cap) h K
  | _ => False
def rngK (Q : AEx → St → Prop) (nt base : Nat) (tm : List (Nat × AV)) (o : Out) (h : List AObj) : Prop := noYH h = true ∧ match o with
  | .ret _ => Q .norm ⟨nt, base, tm, h⟩
  | .pan v => v.noY = true ∧ Q (.pan v) ⟨0, 0, [], h⟩
def rngE (n : Nat) (B : St → Prop) (e : AEx) (s : St) : Prop := e = .norm ∧ (s.h.length ≤ s.base ∧ n ≤ s.base) ∧ B s
/-- What compact code comes to. -/
def Aw (P : Program) : AC → (AEx → St → Prop) → St → Prop
  | .skip, Q, s => Q .norm s
  | .reg l outs, Q, s => run P (panQ Q) l s fun s' => Q .norm (proj outs s')
  | .seq a b, Q, s => Aw P a (thenQ (Aw P b Q) Q) s
  | .cond c l1 a l2 b, Q, s => match ev s.tm c with
    | .bool v => (v = true → Aw P a Q (proj l1 s)) ∧ (v = false → Aw P b Q (proj l2 s))
    | _ => False
  | .block id a, Q, s => Aw P a (blockQ id Q) s
  | .loop outs a, Q, s => ∃ (I : Nat → St → Prop) (n : Nat) (s0 : St), Le (proj outs s) s0 ∧ I n s0 ∧ ∀ m s, I m s → Aw P a (thenQ (fun s' => ∃ s'' m', Le (proj outs s') s'' ∧ m' < m ∧ I m' s'') Q) s
  | .exit id outs, Q, s => Q (.exit id) (proj outs s)
  | .ret outs, Q, s => Q .ret (proj outs s)
  | .scope a, Q, s => Aw P a Q s
  | .label _, Q, s => Q .norm s
  | .regp _ l outs, Q, s => run P (panQ Q) l s fun s' => Q .norm (proj outs s')
  | .rng outs g ps a b, Q, s => rngA P ps.length (fun args h R => Aw P a (rngE h.length (Aw P b (endY h.length R))) ⟨s.nt, h.length, bindT ps args (proj outs s).tm, h⟩) (rngK Q s.nt s.base (proj outs s).tm) s.h (ev (proj outs s).tm g)

/-- A region's steps in an order of their own. -/
def compP (P : Program) (nt : Nat) (ops : Array Oper) : List Nat → List AStp → Option (List AStp)
  | [], _ => some []
  | i :: r, hs => match ops[i]? with
    | some o => match compS P nt ops (hs.headD default) o, compP P nt ops r hs.tail with
      | some x, some l => some (x :: l)
      | _, _ => none
    | none => none
/-- Compact code out of the model's; where there is more than one reading: as told. -/
def comp (P : Program) (nt : Nat) : Code → AC → Option AC
  | .skip, _ => some .skip
  | .region _ ops draw, .reg hs outs => match compR P nt ops ops.toList hs with
    | some l => if !draw || (P.follows .mixedOrders && downOK 0 ops.toList && ordOK l (masks ops.toList [])) then some (.reg l outs) else none
    | none => none
  | .region _ ops true, .regp perm hs outs => match compP P nt ops perm hs with
    | some l => if P.follows .mixedOrders && downOK 0 ops.toList && ordOKp (perm.zip l) (masks ops.toList []) && decide perm.Nodup && (perm.length == ops.size) && perm.all (· < ops.size) && (List.range ops.size).all (fun i => perm.contains i) then some (.regp perm l outs) else none
    | none => none
  | .seq a b, .seq x y => match comp P nt a x, comp P nt b y with
    | some x, some y => some (.seq x y)
    | _, _ => none
  | .cond c a b, .cond _ l1 x l2 y => match compO c, comp P nt a x, comp P nt b y with
    | some c, some x, some y => some (.cond c l1 x l2 y)
    | _, _, _ => none
  | .block id a, .block _ x => (comp P nt a x).map (.block id)
  | .loop a, .loop outs x => (comp P nt a x).map (.loop outs)
  | .exit id, .exit _ outs => some (.exit id outs)
  | .ret, .ret outs => some (.ret outs)
  | .scope a, .scope x => (comp P nt a x).map .scope
  | .label l, .label _ => some (.label l)
  | .rangeFunc g ps a b, .rng outs _ _ x y => match compO g, comp P nt a x, comp P nt b y with
    | some g, some x, some y => if flat a && flat b && ps.toList.all (· < nt) then some (.rng outs g ps.toList x y) else none
    | _, _, _ => none
  | _, _ => none

omit [Glob] in
theorem lk_map (f : Nat → AV) : ∀ (outs : List Nat) (t : Nat), lk (outs.map fun t => (t, f t)) t = .any ∨ lk (outs.map fun t => (t, f t)) t = f t
  | [], t => .inl rfl
  | u :: r, t => by
    simp only [List.map_cons, lk]
    split
    · rename_i e; subst e; exact .inr rfl
    · exact lk_map f r t
theorem StRel.proj {X : Env} {lo : Option Nat} {w : World} {a : Act} {bs : List (Option Nat)} {s : St} (r : StRel X lo w a bs s) (outs : List Nat) : StRel X lo w a bs (proj outs s) := by
  refine ⟨r.heap, r.nt, fun t => ?_, r.df, r.bn⟩
  show Rep X w s.h bs (lk (outs.map fun t => (t, lk s.tm t)) t) _
  rcases lk_map (lk s.tm) outs t with h | h <;> rw [h]
  · exact .any _
  · exact r.tm t
section
variable {P : Program} {Q : AEx → St → Prop} {s : St}
theorem Awp.proj {c : Code} (outs : List Nat) (h : Awp P c Q (proj outs s)) : Awp P c Q s := fun X lo w0 h0 b0 w a bs r f g => h X lo w0 h0 b0 w a bs (r.proj outs) f g
theorem Le.proj (s : St) (outs : List Nat) : Le s (Pe.proj outs s) := ⟨rfl, rfl, fun X lo w0 h0 b0 w a bs r f g => ⟨bs, r.proj outs, f⟩⟩

/-- And as many temporaries as there are. -/
def Qn (nt : Nat) (Q : AEx → St → Prop) : AEx → St → Prop
  | .pan v, s => Q (.pan v) s
  | e, s => s.nt = nt ∧ Q e s
omit [Glob] in
theorem Qn_pan {nt : Nat} {Q : AEx → St → Prop} : panQ (Qn nt Q) = panQ Q := rfl

omit [Glob] in
theorem filterMap_range' {α : Type} : ∀ (l pre : List α), (List.range' pre.length l.length).filterMap ((pre ++ l)[·]?) = l
  | [], pre => rfl
  | x :: l, pre => by
    rw [List.length_cons, List.range'_succ, List.filterMap_cons_some (b := x) (by simp)]
    have := filterMap_range' l (pre ++ [x])
    simp at this
    rw [this]
omit [Glob] in
theorem filterMap_range {α : Type} (l : List α) : (List.range l.length).filterMap (l[·]?) = l := by
  have := filterMap_range' l []
  rw [List.range_eq_range']
  simpa using this
omit [Glob] in
theorem compP_spec {nt : Nat} {ops : Array Oper} : ∀ {perm : List Nat} {hs sts : List AStp}, compP P nt ops perm hs = some sts → sts.length = perm.length ∧ ∀ p ∈ perm.zip sts, ∃ o hint, ops[p.1]? = some o ∧ compS P nt ops hint o = some p.2
  | [], hs, sts, h => by simp only [compP, Option.some.injEq] at h; subst h; simp
  | i :: r, hs, sts, h => by
    simp only [compP] at h
    split at h
    · rename_i o ho
      split at h
      · rename_i x l h1 h2
        cases h
        obtain ⟨a, b⟩ := compP_spec h2
        refine ⟨by simp [a], fun p hp => ?_⟩
        rw [List.zip_cons_cons] at hp
        rcases List.mem_cons.1 hp with rfl | hp
        · exact ⟨o, _, ho, h1⟩
        · exact b p hp
      · cases h
    · cases h
theorem awp_regionP {id nt : Nat} {ops : Array Oper} {perm : List Nat} {hs sts : List AStp} {outs : List Nat} (hc : compP P nt ops perm hs = some sts) (hm : P.follows .mixedOrders = true) (hdn : downOK 0 ops.toList = true) (hord : ordOKp (perm.zip sts) (masks ops.toList []) = true)
    (hnd : perm.Nodup) (hpl : perm.length = ops.size) (hpa : ∀ i ∈ perm, i < ops.size) (hin : ∀ i, i < ops.size → i ∈ perm) (hnt : s.nt = nt) (k : run P (panQ Q) sts s fun s' => Q .norm (proj outs s')) : Awp P (.region id ops true) (Qn nt Q) s := by
  intro X lo w0 h0 b0 w a bs r f g ro hro
  obtain ⟨l1, l2⟩ := compP_spec hc
  refine wpR_of_in (wpIn_region_draw fun t => ?_)
  simp only [Region.schedule, hm, Bool.true_or, if_true]
  refine wpAnyIn_sound ops.size t _ a _ ?_
  have hms := masks_ok ops.toList [] [] rfl (by intro i o m k e1; simp at e1)
  simp only [List.nil_append] at hms
  let K : St → Prop := fun s' => ∃ s'', Eqv s'' s' ∧ Q .norm (Pe.proj outs s'')
  have hmap : (perm.zip sts).map (·.1) = perm := by rw [List.map_fst_zip (by omega)]
  have hsnd : (perm.zip sts).map (·.2) = sts := by rw [List.map_snd_zip (by omega)]
  have hleft : left (perm.zip sts) (Array.replicate ops.size false) = perm.zip sts := by
    refine List.filter_eq_self.2 fun p hp => ?_
    have : p.1 ∈ perm := by rw [← hmap]; exact List.mem_map_of_mem hp
    rw [Array.getD_eq_getD_getElem?, Array.getElem?_replicate, if_pos (hpa _ this)]; rfl
  have hall : ∀ i, i < ops.size → ∃ st, (i, st) ∈ perm.zip sts := by
    intro i hi
    have hmem : i ∈ perm := hin i hi
    rw [← hmap] at hmem
    obtain ⟨p, hp, rfl⟩ := List.mem_map.1 hmem
    exact ⟨p.2, hp⟩
  have hb : Go.RowKit.Below w.heap.size w { w with drawn := w.drawn + 1 } := ⟨rfl, rfl, rfl, Nat.le_refl _, fun _ _ => rfl⟩
  have hf := Fr.of_below hb s.h bs
  have r1 : StRel X lo { w with drawn := w.drawn + 1 } a bs s := ⟨r.heap.below hf fun b hb2 => hb.block b hb2, r.nt, fun t => (r.tm t).fr hf, r.df.fr hf, r.bn⟩
  refine any_soundP ro (P := P) (Q := Qn nt Q) (K := K) (nt := nt) (Z := perm.zip sts) (ms := masks ops.toList []) hms.1 (by simpa using hms.2) hdn hord (by rw [hmap]; exact hnd) hall l2 ?_ ?_ ops.size _ a _ s bs (by simp) (by rw [hleft, List.length_zip]; omega) ?_ hnt ?_ r1 (f.trans hf) g
  · rintro s1 s2 e ⟨s3, e3, q⟩; exact ⟨s3, e3.trans e, q⟩
  · rintro s1 X1 w1 a1 bs1 n1 ⟨s3, e3, q⟩ r3 f3 g3
    have r4 : StRel X1 lo w1 a1 bs1 s3 := ⟨e3.h ▸ r3.heap, by rw [r3.nt, e3.nt], fun t => by rw [e3.h, congrFun e3.tm t]; exact r3.tm t, r3.df, by rw [e3.base]; exact r3.bn⟩
    exact ⟨Pe.proj outs s3, bs1, ⟨by show s3.nt = nt; rw [e3.nt]; exact n1, q⟩, r4.proj outs, by show Fr w0 h0 b0 w1 s3.h bs1; rw [e3.h]; exact f3, by show h0.length ≤ s3.base; rw [e3.base]; exact g3⟩
  · intro i o ho hl
    rw [Array.getD_eq_getD_getElem?, Array.getElem?_replicate, if_pos (Array.getElem?_eq_some_iff.1 ho).1] at hl
    cases hl
  · rw [hleft, hsnd]
    exact run_mono (fun s' h => ⟨s', Eqv.refl _, h⟩) k
theorem awp_region {id nt : Nat} {ops : Array Oper} {draw : Bool} {hs sts : List AStp} {outs : List Nat} (hc : compR P nt ops ops.toList hs = some sts) (hd : (!draw || (P.follows .mixedOrders && downOK 0 ops.toList && ordOK sts (masks ops.toList []))) = true)
    (hnt : s.nt = nt) (k : run P (panQ Q) sts s fun s' => Q .norm (proj outs s')) : Awp P (.region id ops draw) (Qn nt Q) s := by
  intro X lo w0 h0 b0 w a bs r f g ro hro
  obtain ⟨l1, l2⟩ := compR_spec hc
  have l2' : ∀ (j : Nat) (o : Oper), ops[j]? = some o → ∃ hint st, sts[j]? = some st ∧ compS P nt ops hint o = some st := fun j o e => l2 j o (by simpa using e)
  have l1 : sts.length = ops.size := by simpa using l1
  cases draw with
  | false =>
    refine wpR_of_in (wpIn_region ?_)
    rw [List.range_eq_range']
    refine run_sound ro (Q := Qn nt Q) ops.size 0 sts a w s bs _ (by omega) l1 (fun j o e _ => l2' j o (by simpa using e)) hnt r f g k ?_
    intro s' w' a' bs' n' q r' f' g'
    exact ⟨Pe.proj outs s', bs', ⟨n', q⟩, r'.proj outs, f', g'⟩
  | true =>
    simp only [Bool.not_true, Bool.false_or, Bool.and_eq_true] at hd
    obtain ⟨⟨hm, hdn⟩, hord⟩ := hd
    refine wpR_of_in (wpIn_region_draw fun t => ?_)
    simp only [Region.schedule, hm, Bool.true_or, if_true]
    refine wpAnyIn_sound ops.size t _ a _ ?_
    have hms := masks_ok ops.toList [] [] rfl (by intro i o m k e1; simp at e1)
    simp only [List.nil_append] at hms
    let K : St → Prop := fun s' => ∃ s'', Eqv s'' s' ∧ Q .norm (Pe.proj outs s'')
    have hpend : pend ops.size (Array.replicate ops.size false) = List.range ops.size := by
      unfold pend
      refine List.filter_eq_self.2 fun i hi => ?_
      rw [Array.getD_eq_getD_getElem?, Array.getElem?_replicate, if_pos (List.mem_range.1 hi)]; rfl
    have hsel : (List.range ops.size).filterMap (sts[·]?) = sts := by
      rw [← show sts.length = ops.size from l1]
      exact filterMap_range sts
    have hb : Go.RowKit.Below w.heap.size w { w with drawn := w.drawn + 1 } := ⟨rfl, rfl, rfl, Nat.le_refl _, fun _ _ => rfl⟩
    have hf := Fr.of_below hb s.h bs
    have r1 : StRel X lo { w with drawn := w.drawn + 1 } a bs s := ⟨r.heap.below hf fun b hb2 => hb.block b hb2, r.nt, fun t => (r.tm t).fr hf, r.df.fr hf, r.bn⟩
    refine any_sound ro (P := P) (Q := Qn nt Q) (K := K) (nt := nt) (sts := sts) (ms := masks ops.toList []) hms.1 (by simpa using hms.2) hdn hord l1 l2' ?_ ?_ ops.size _ a _ s bs (by simp) (by rw [hpend]; simp) ?_ hnt ?_ r1 (f.trans hf) g
    · rintro s1 s2 e ⟨s3, e3, q⟩; exact ⟨s3, e3.trans e, q⟩
    · rintro s1 X1 w1 a1 bs1 n1 ⟨s3, e3, q⟩ r3 f3 g3
      have r4 : StRel X1 lo w1 a1 bs1 s3 := ⟨e3.h ▸ r3.heap, by rw [r3.nt, e3.nt], fun t => by rw [e3.h, congrFun e3.tm t]; exact r3.tm t, r3.df, by rw [e3.base]; exact r3.bn⟩
      exact ⟨Pe.proj outs s3, bs1, ⟨by show s3.nt = nt; rw [e3.nt]; exact n1, q⟩, r4.proj outs, by show Fr w0 h0 b0 w1 s3.h bs1; rw [e3.h]; exact f3, by show h0.length ≤ s3.base; rw [e3.base]; exact g3⟩
    · intro i o ho hl
      rw [Array.getD_eq_getD_getElem?, Array.getElem?_replicate, if_pos (Array.getElem?_eq_some_iff.1 ho).1] at hl
      cases hl
    · rw [hpend, hsel]
      exact run_mono (fun s' h => ⟨s', Eqv.refl _, h⟩) k

theorem Qn_then {nt : Nat} {K : St → Prop} {Q : AEx → St → Prop} {c : Code} (h : ∀ s, s.nt = nt → K s → Awp P c (Qn nt Q) s) : ∀ e s, Qn nt (thenQ K Q) e s → thenQ (Awp P c (Qn nt Q)) (Qn nt Q) e s
  | .norm, s, ⟨n, k⟩ => h s n k
  | .exit _, s, k => k
  | .ret, s, k => k
  | .pan _, s, k => k

/-- What compact code comes to, the model's code comes to. -/
theorem comp_sound {nt : Nat} : ∀ (c : Code) (hint ac : AC) (Q : AEx → St → Prop) (s : St), comp P nt c hint = some ac → s.nt = nt → Aw P ac Q s → Awp P c (Qn nt Q) s
  | .skip, hint, ac, Q, s, hc, hn, k => by
    cases hint <;> simp only [comp, Option.some.injEq] at hc <;> subst hc <;> exact awp_skip ⟨hn, k⟩
  | .region id ops draw, hint, ac, Q, s, hc, hn, k => by
    cases hint with
    | reg hs outs =>
      simp only [comp] at hc
      split at hc
      · rename_i l hl
        split at hc
        · rename_i hd; cases hc; exact awp_region hl hd hn k
        · cases hc
      · cases hc
    | regp perm hs outs =>
      cases draw <;> simp only [comp] at hc
      · cases hc
      · split at hc
        · rename_i l hl
          split at hc
          · rename_i hd
            simp only [Bool.and_eq_true, decide_eq_true_eq, beq_iff_eq, List.all_eq_true] at hd
            obtain ⟨⟨⟨⟨⟨⟨d1, d2⟩, d3⟩, d4⟩, d5⟩, d6⟩, d7⟩ := hd
            cases hc; exact awp_regionP hl d1 d2 d3 d4 d5 d6 (fun i hi => by have := d7 i (List.mem_range.2 hi); simpa using this) hn k
          · cases hc
        · cases hc
    | _ => cases draw <;> simp only [comp] at hc <;> cases hc
  | .seq x y, hint, ac, Q, s, hc, hn, k => by
    cases hint <;> simp only [comp] at hc <;> try (cases hc; done)
    split at hc
    · rename_i h1 h2
      cases hc
      simp only [Aw] at k
      exact awp_seq ((comp_sound x _ _ _ s h1 hn k).mono (Qn_then fun s' n' k' => comp_sound y _ _ Q s' h2 n' k'))
    · cases hc
  | .cond c x y, hint, ac, Q, s, hc, hn, k => by
    cases hint <;> simp only [comp] at hc <;> try (cases hc; done)
    split at hc
    · rename_i l1 _ l2 _ c' x' y' h0 h1 h2
      cases hc
      simp only [Aw] at k
      intro X lo w0 h0' b0 w a bs r f g ro hro
      simp only [flat, Bool.and_eq_true] at hro
      have hv := r.opd h0
      split at k
      · rename_i b hb
        rw [hb] at hv
        have hvb := hv.bool_inv
        cases b with
        | true => exact wpR_cond_true hvb ((comp_sound x _ _ Q (Pe.proj _ s) h1 hn (k.1 rfl)) X lo w0 h0' b0 w a bs (r.proj _) f g ro (hro.imp id (·.1)))
        | false => exact wpR_cond_false hvb ((comp_sound y _ _ Q (Pe.proj _ s) h2 hn (k.2 rfl)) X lo w0 h0' b0 w a bs (r.proj _) f g ro (hro.imp id (·.2)))
      · exact k.elim
    · cases hc
  | .block id x, hint, ac, Q, s, hc, hn, k => by
    cases hint <;> simp only [comp] at hc <;> try (cases hc; done)
    rename_i id' x'
    cases h1 : comp P nt x x' with
    | none => rw [h1] at hc; cases hc
    | some x'' =>
      rw [h1] at hc; cases hc
      simp only [Aw] at k
      refine awp_block ((comp_sound x _ _ _ s h1 hn k).mono ?_)
      intro e s' q
      cases e with
      | norm => exact q
      | exit i =>
        simp only [Qn, blockQ] at q ⊢
        split
        · rename_i e; rw [if_pos e] at q; exact q
        · rename_i e; rw [if_neg e] at q; exact q
      | ret => exact q
      | pan v => exact q
  | .loop x, hint, ac, Q, s, hc, hn, k => by
    cases hint <;> simp only [comp] at hc <;> try (cases hc; done)
    rename_i outs x'
    cases h1 : comp P nt x x' with
    | none => rw [h1] at hc; cases hc
    | some x'' =>
      rw [h1] at hc; cases hc
      simp only [Aw] at k
      obtain ⟨I, n, s0, l0, i0, round⟩ := k
      refine Awp.proj outs (Awp.le l0 (awp_loop (fun m s => s.nt = nt ∧ I m s) n ⟨by rw [l0.nt]; exact hn, i0⟩ ?_))
      rintro m s' ⟨n', i'⟩
      refine (comp_sound x _ _ _ s' h1 n' (round m s' i')).mono ?_
      intro e s'' q
      cases e with
      | norm =>
        obtain ⟨n2, s3, m', k1, k2, k3⟩ := q
        exact ⟨s3, m', (Le.proj s'' outs).trans k1, k2, by rw [k1.nt]; exact n2, k3⟩
      | exit i => exact q
      | ret => exact q
      | pan v => exact q
  | .rangeFunc g ps x y, hint, ac, Q, s, hc, hn, k => by
    cases hint <;> simp only [comp] at hc <;> try (cases hc; done)
    split at hc
    · rename_i outs _ _ _ _ _ _ _ g' x'' y'' h0 h1 h2
      split at hc
      · rename_i hcond
        simp only [Bool.and_eq_true, List.all_eq_true, decide_eq_true_eq] at hcond
        obtain ⟨⟨f1, f2⟩, f3⟩ := hcond
        cases hc
        simp only [Aw] at k
        refine Awp.proj outs ?_
        unfold rngA at k
        split at k
        · rename_i gf cap hv
          obtain ⟨⟨k1, k2⟩, k3⟩ := k
          refine awp_range k1 h0 hv k2 f1 f2 (by rw [show (Pe.proj outs s).nt = s.nt from rfl, hn]; exact f3) fun c hp => @VH.mono (Glob.at P c) P _ _ _ _ _ (k3 c fun args h R a1 a2 a3 a4 => hp args h R a1 (by simpa using a2) a3 ?_) ?_
          · refine (comp_sound x _ x'' _ ⟨s.nt, h.length, bindT ps.toList args (Pe.proj outs s).tm, h⟩ h1 hn a4).mono ?_
            intro e s1 q
            cases e with
            | norm =>
              obtain ⟨n1, _, q1, q2⟩ := q
              exact ⟨rfl, q1, (comp_sound y _ _ _ s1 h2 n1 q2).mono fun e s q => by cases e <;> first | exact q.2 | exact q⟩
            | exit i => exact absurd q.2.1 (by simp)
            | ret => exact absurd q.2.1 (by simp)
            | pan v => exact absurd q.1 (by simp)
          · rintro o h' ⟨q1, q2⟩
            cases o with
            | ret v => exact ⟨q1, hn, q2⟩
            | pan v => exact ⟨q1, q2⟩
        · exact k.elim
      · cases hc
    · cases hc
  | .exit id, hint, ac, Q, s, hc, hn, k => by
    cases hint <;> simp only [comp] at hc <;> try (cases hc; done)
    cases hc
    exact Awp.proj _ (awp_exit ⟨hn, k⟩)
  | .ret, hint, ac, Q, s, hc, hn, k => by
    cases hint <;> simp only [comp] at hc <;> try (cases hc; done)
    cases hc
    exact Awp.proj _ (awp_ret ⟨hn, k⟩)
  | .scope x, hint, ac, Q, s, hc, hn, k => by
    cases hint <;> simp only [comp] at hc <;> try (cases hc; done)
    rename_i x'
    cases h1 : comp P nt x x' with
    | none => rw [h1] at hc; cases hc
    | some x'' => rw [h1] at hc; cases hc; exact awp_scope (comp_sound x _ _ Q s h1 hn k)
  | .label l, hint, ac, Q, s, hc, hn, k => by
    cases hint <;> simp only [comp] at hc <;> try (cases hc; done)
    cases hc
    exact awp_label ⟨hn, k⟩
  | .goto _, hint, ac, Q, s, hc, hn, k => by cases hint <;> simp only [comp] at hc <;> cases hc
  | .refuse _, hint, ac, Q, s, hc, hn, k => by cases hint <;> simp only [comp] at hc <;> cases hc
end

end Go.Pe
