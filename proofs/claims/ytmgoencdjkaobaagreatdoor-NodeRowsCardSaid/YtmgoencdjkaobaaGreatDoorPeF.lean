/- Regions whose order is free: steps that may be taken in their order may be taken in any that is let. No program in sight; no conditions. -/
import Derived.Test.YtmgoencdjkaobaaGreatDoorPeE
set_option linter.unusedVariables false
set_option linter.unusedSimpArgs false
namespace Go.Pe

def AOp.steady : AOp → Bool
  | .e _ | .callV .. | .cvalV .. | .lit .. | .callO .. | .cvalO .. => true
  | _ => false
/-- It looks at no object. -/
def AOp.blind : AOp → Bool
  | .e (.mov _) | .e (.pick ..) | .e (.bin ..) | .e (.binB ..) | .e (.un ..) | .e (.cint ..) | .e (.cstr _) | .e (.idx ..) | .e (.fld ..) | .e (.slS ..) | .e (.ext ..) | .e (.lenS _) | .e (.mx ..) | .e (.mkf ..) | .e (.mki ..) | .e (.bld ..) | .e (.eqA ..) | .e (.isN ..) | .callV .. | .cvalV .. | .lit .. => true
  | _ => false
def opdT : Opd → Option Nat
  | .t n => some n
  | .c _ => none
def AStp.reads (st : AStp) : List Nat := st.op.opds.filterMap opdT ++ (st.g.map (·.1)).toList
/-- It may panic, and turns nothing. -/
def AOp.calm : AOp → Bool
  | .callP .. | .cvalP .. => true
  | _ => false
/-- Steps of which each may be the first. -/
def indep (x y : AStp) : Bool :=
  ((x.op.steady && (y.op.steady || y.op.calm)) || x.op.blind) && (match x.dst with
    | none => true
    | some d => !(y.reads.contains d) && y.dst != some d) && (match y.dst with
    | none => true
    | some d => !(x.reads.contains d))
/-- Which steps go before one, as bits. -/
def preds (o : Oper) (acc : List Nat) : Nat := o.after.toList.foldl (fun s e => if Region.binds .any e then s ||| 2 ^ e.on ||| acc.getD e.on 0 else s) 0
def masks : List Oper → List Nat → List Nat
  | [], acc => acc
  | o :: r, acc => masks r (acc ++ [preds o acc])
def downOK : Nat → List Oper → Bool
  | _, [] => true
  | n, o :: r => (o.after.toList.all fun e => !Region.binds .any e || decide (e.on < n)) && downOK (n + 1) r
def ordOK (sts : List AStp) (ms : List Nat) : Bool := (List.range sts.length).all fun i => (List.range i).all fun k => (ms.getD i 0).testBit k || match sts[k]?, sts[i]? with
  | some x, some y => indep x y
  | _, _ => false

/-- States that are known alike. -/
structure Eqv (s s' : St) : Prop where
  nt : s.nt = s'.nt
  base : s.base = s'.base
  h : s.h = s'.h
  tm : lk s.tm = lk s'.tm
def Shut (K : St → Prop) : Prop := ∀ s s', Eqv s s' → K s → K s'
theorem Eqv.refl (s : St) : Eqv s s := ⟨rfl, rfl, rfl, rfl⟩
theorem Eqv.symm {s s' : St} (e : Eqv s s') : Eqv s' s := ⟨e.nt.symm, e.base.symm, e.h.symm, e.tm.symm⟩
theorem Eqv.trans {s s' s'' : St} (e : Eqv s s') (f : Eqv s' s'') : Eqv s s'' := ⟨e.nt.trans f.nt, e.base.trans f.base, e.h.trans f.h, e.tm.trans f.tm⟩
theorem lk_put {tm tm' : List (Nat × AV)} (h : lk tm = lk tm') (d : Option Nat) (v : AV) : lk (putTm tm d v) = lk (putTm tm' d v) := by
  cases d with
  | none => exact h
  | some d => funext u; simp only [putTm, lk, h]
theorem lk_put_ne {tm : List (Nat × AV)} {d : Option Nat} {v : AV} {t : Nat} (h : d ≠ some t) : lk (putTm tm d v) t = lk tm t := by
  cases d with
  | none => rfl
  | some d =>
    simp only [putTm, lk]
    rw [if_neg]
    intro e; exact h (by rw [e])

section
variable [Glob] {P : Program} {Qp : AV → List AObj → Prop}

theorem stp_mono {st : AStp} {s : St} {K K' : St → Prop} (h : ∀ s', K s' → K' s') (k : stp P Qp st s K) : stp P Qp st s K' := by
  unfold stp at k ⊢
  split at k
  · exact astep_mono k fun v h' k => h _ k
  · split at k
    · exact ⟨fun e => astep_mono (k.1 e) fun v h' k => h _ k, fun e => h _ (k.2 e)⟩
    · exact h _ k
    · exact k.elim
theorem stp_nt {st : AStp} {s : St} {K : St → Prop} (k : stp P Qp st s K) : stp P Qp st s fun s' => s'.nt = s.nt ∧ K s' := by
  unfold stp at k ⊢
  split at k
  · exact astep_mono k fun v h' k => ⟨rfl, k⟩
  · split at k
    · exact ⟨fun e => astep_mono (k.1 e) fun v h' k => ⟨rfl, k⟩, fun e => ⟨rfl, k.2 e⟩⟩
    · exact ⟨rfl, k⟩
    · exact k.elim
theorem stp_eqv {st : AStp} {s s' : St} {K : St → Prop} (hK : Shut K) (e : Eqv s s') (k : stp P Qp st s K) : stp P Qp st s' K := by
  obtain ⟨e1, e2, e3, e4⟩ := e
  unfold stp at k ⊢
  rw [← e3]
  split at k
  · refine astep_mono (astep_congr (fun x _ => congrFun (ev_lk e4) x) ▸ k) fun v h' k => ?_
    refine hK _ _ ?_ k; exact ⟨e1, e2, rfl, lk_put e4 _ _⟩
  · rename_i t want _
    have h5 : ∀ b : Bool, lk ((t, AV.bool b) :: s.tm) = lk ((t, AV.bool b) :: s'.tm) := by intro b; funext u; simp only [lk, e4]
    rw [← e4]
    split at k
    · refine ⟨fun e => ?_, fun e => ?_⟩
      · refine astep_mono (astep_congr (fun x _ => congrFun (ev_lk (h5 want)) x) ▸ k.1 e) fun v h' k => ?_
        refine hK _ _ ?_ k; exact ⟨e1, e2, rfl, lk_put (h5 _) _ _⟩
      · refine hK _ _ ?_ (k.2 e); exact ⟨e1, e2, rfl, lk_put (h5 _) _ _⟩
    · refine hK _ _ ?_ k; exact ⟨e1, e2, rfl, lk_put e4 _ _⟩
    · exact k.elim
theorem run_shut {l : List AStp} {K : St → Prop} (hK : Shut K) : Shut fun s => run P Qp l s K := by
  induction l with
  | nil => exact hK
  | cons st r ih => exact fun s s' e k => stp_eqv ih e k
theorem run_mono {l : List AStp} {K K' : St → Prop} (h : ∀ s', K s' → K' s') : ∀ {s : St}, run P Qp l s K → run P Qp l s K' := by
  induction l with
  | nil => exact fun k => h _ k
  | cons st r ih => exact fun k => stp_mono (fun s' k => ih k) k

theorem astep_mono2 {h : List AObj} {tm : List (Nat × AV)} {K Q Q' : AV → List AObj → Prop} {op : AOp} (hq : ∀ v h, Q v h → Q' v h) (hk : astep P h tm K Q op) : astep P h tm K Q' op := by
  cases op with
  | call f l =>
    simp only [astep] at hk ⊢
    exact VH.mono hk fun o h' k => by cases o <;> first | exact hq _ _ k | exact k
  | cval g l =>
    simp only [astep] at hk ⊢
    split at hk
    · exact ⟨hk.1, hk.2.mono fun o h' k => by cases o <;> first | exact hq _ _ k | exact k⟩
    · exact hk.elim
  | yld g l =>
    simp only [astep] at hk ⊢
    split at hk
    · exact hk.mono fun o h' k => by cases o <;> first | exact hq _ _ k | exact k
    · exact hk.elim
  | callP f l => exact let ⟨o, h1, h2⟩ := hk; ⟨o, h1, by cases o <;> first | exact hq _ _ h2 | exact h2⟩
  | cvalP g l =>
    simp only [astep] at hk ⊢
    split at hk
    · obtain ⟨h1, o, h2, h3⟩ := hk; exact ⟨h1, o, h2, by cases o <;> first | exact hq _ _ h3 | exact h3⟩
    · exact hk.elim
  | pan x =>
    simp only [astep] at hk ⊢
    split at hk
    · exact hq _ _ hk
    · exact hk.elim
  | _ => exact hk
theorem stp_mono2 {Qp' : AV → List AObj → Prop} {st : AStp} {s : St} {K : St → Prop} (h : ∀ v o, Qp v o → Qp' v o) (k : stp P Qp st s K) : stp P Qp' st s K := by
  unfold stp at k ⊢
  split at k
  · exact astep_mono2 h k
  · split at k
    · exact ⟨fun e => astep_mono2 h (k.1 e), k.2⟩
    · exact k
    · exact k.elim
theorem run_mono2 {Qp' : AV → List AObj → Prop} {l : List AStp} {K K' : St → Prop} (hq : ∀ v o, Qp v o → Qp' v o) (h : ∀ s', K s' → K' s') : ∀ {s : St}, run P Qp l s K → run P Qp' l s K' := by
  induction l with
  | nil => exact fun k => h _ k
  | cons st r ih => exact fun k => stp_mono2 hq (stp_mono (fun s' k => ih k) k)

/-- It yields this, and turns nothing. -/
def Yes (P : Program) (h : List AObj) (tm : List (Nat × AV)) (op : AOp) (v : AV) : Prop := ∀ K Qp : AV → List AObj → Prop, K v h → astep P h tm K Qp op
theorem steady_val {op : AOp} (hs : op.steady = true) {h : List AObj} {tm : List (Nat × AV)} {K : AV → List AObj → Prop} (k : astep P h tm K Qp op) : ∃ v, K v h ∧ Yes P h tm op v := by
  cases op with
  | e x => obtain ⟨v, h1, h2⟩ := aval_val k; exact ⟨v, h1, fun K' _ hk => h2 _ hk⟩
  | callV f l => obtain ⟨v, h1, h2⟩ := k; exact ⟨v, h2, fun K' _ hk => ⟨v, h1, hk⟩⟩
  | callO f l => obtain ⟨v, h1, h2⟩ := k; exact ⟨v, h2, fun K' _ hk => ⟨v, h1, hk⟩⟩
  | cvalO g l =>
    simp only [astep] at k
    split at k
    · rename_i f cap e
      obtain ⟨k1, v, k2, k3⟩ := k
      exact ⟨v, k3, fun K' _ hk => by simp only [astep, e]; exact ⟨k1, v, k2, hk⟩⟩
    · exact k.elim
  | lit sz l => exact ⟨_, k.2, fun K' _ hk => ⟨k.1, hk⟩⟩
  | cvalV g l =>
    simp only [astep] at k
    split at k
    · rename_i f cap e
      obtain ⟨h1, v, h2, h3⟩ := k
      exact ⟨v, h3, fun K' _ hk => by simp only [astep, e]; exact ⟨h1, v, h2, hk⟩⟩
    · exact k.elim
  | _ => cases hs
omit [Glob] in
theorem blind_steady {op : AOp} (h : op.blind = true) : op.steady = true := by
  unfold AOp.blind at h
  split at h <;> first | rfl | cases h
theorem blind_heap {op : AOp} (h : op.blind = true) {o o' : List AObj} {tm : List (Nat × AV)} {K Qp : AV → List AObj → Prop} (k : astep P o tm (fun v _ => K v o') Qp op) : astep P o' tm K Qp op := by
  unfold AOp.blind at h
  split at h <;> first | exact k | cases h
theorem Yes.blind {op : AOp} (h : op.blind = true) {o o' : List AObj} {tm : List (Nat × AV)} {v : AV} (k : Yes P o tm op v) : Yes P o' tm op v := fun K Q hk => blind_heap (o := o) h (k (fun u _ => K u o') Q hk)
def Sval (P : Program) (s : St) (st : AStp) (v : AV) : Prop :=
  match st.g with
  | none => Yes P s.h s.tm st.op v
  | some (t, want) => match lk s.tm t with
    | .bool b => if b = want then Yes P s.h s.tm st.op v else v = .tup []
    | .tup _ => v = .tup []
    | _ => False
theorem stp_steady {st : AStp} (hs : st.op.steady = true) {s : St} {K : St → Prop} (hK : Shut K) (k : stp P Qp st s K) : ∃ v, Sval P s st v ∧ K { s with tm := putTm s.tm st.dst v } := by
  obtain ⟨dst, g, op⟩ := st
  cases g with
  | none =>
    simp only [stp] at k
    obtain ⟨v, h1, h2⟩ := steady_val hs k
    exact ⟨v, h2, h1⟩
  | some p =>
    obtain ⟨t, want⟩ := p
    simp only [stp] at k
    simp only [Sval]
    cases hb : lk s.tm t with
    | bool b =>
      simp only [hb] at k ⊢
      by_cases hw : b = want
      · obtain ⟨v, h1, h2⟩ := steady_val hs (k.1 hw)
        have hl : lk ((t, AV.bool want) :: s.tm) = lk s.tm := lk_known (hw ▸ hb)
        refine ⟨v, ?_, ?_⟩
        · rw [if_pos hw]
          exact fun K' Q' hk => (astep_congr (fun x _ => congrFun (ev_lk hl) x)) ▸ h2 K' Q' hk
        · refine hK _ _ ?_ h1
          exact ⟨rfl, rfl, rfl, lk_put hl _ _⟩
      · have hn : b = !want := by cases b <;> cases want <;> simp at hw ⊢
        have hl : lk ((t, AV.bool (!want)) :: s.tm) = lk s.tm := lk_known (hn ▸ hb)
        refine ⟨.tup [], ?_, ?_⟩
        · rw [if_neg hw]
        · refine hK _ _ ?_ (k.2 hn)
          exact ⟨rfl, rfl, rfl, lk_put hl _ _⟩
    | tup l => simp only [hb] at k ⊢; exact ⟨.tup [], rfl, k⟩
    | _ => simp only [hb] at k
theorem stp_of_sval {st : AStp} {s : St} {v : AV} {K : St → Prop} (hK : Shut K) (hv : Sval P s st v) (k : K { s with tm := putTm s.tm st.dst v }) : stp P Qp st s K := by
  obtain ⟨dst, g, op⟩ := st
  cases g with
  | none => exact hv (fun v h' => K { s with tm := putTm s.tm dst v, h := h' }) Qp k
  | some p =>
    obtain ⟨t, want⟩ := p
    simp only [Sval] at hv
    simp only [stp]
    cases hb : lk s.tm t with
    | bool b =>
      simp only [hb] at hv ⊢
      refine ⟨fun hw => ?_, fun hn => ?_⟩
      · rw [if_pos hw] at hv
        have hl : lk ((t, AV.bool want) :: s.tm) = lk s.tm := lk_known (hw ▸ hb)
        refine (astep_congr (fun x _ => congrFun (ev_lk hl.symm) x)) ▸ hv (fun v h' => K { s with tm := putTm ((t, AV.bool want) :: s.tm) dst v, h := h' }) Qp ?_
        refine hK _ _ ?_ k
        exact ⟨rfl, rfl, rfl, lk_put hl.symm _ _⟩
      · have hw : ¬ b = want := by cases b <;> cases want <;> simp at hn ⊢
        rw [if_neg hw] at hv
        subst hv
        have hl : lk ((t, AV.bool (!want)) :: s.tm) = lk s.tm := lk_known (hn ▸ hb)
        refine hK _ _ ?_ k
        exact ⟨rfl, rfl, rfl, lk_put hl.symm _ _⟩
    | tup l => simp only [hb] at hv ⊢; subst hv; exact k
    | _ => simp only [hb] at hv
theorem Sval_congr {st : AStp} {s s' : St} {v : AV} (hh : s.h = s'.h) (ht : ∀ t ∈ st.reads, lk s.tm t = lk s'.tm t) (hv : Sval P s st v) : Sval P s' st v := by
  have he : ∀ x ∈ st.op.opds, ev s.tm x = ev s'.tm x := by
    intro x hx
    cases x with
    | c v => rfl
    | t n => exact ht n (by simp only [AStp.reads, List.mem_append]; exact .inl (List.mem_filterMap.2 ⟨.t n, hx, rfl⟩))
  have hy : ∀ v, Yes P s.h s.tm st.op v → Yes P s'.h s'.tm st.op v := by
    intro v h K Q hk
    rw [← hh] at hk ⊢
    exact (astep_congr he) ▸ h K Q hk
  unfold Sval at hv ⊢
  split at hv
  · exact hy _ hv
  · rename_i t want hg
    have : lk s.tm t = lk s'.tm t := ht t (by simp [AStp.reads, hg])
    rw [← this]
    split at hv
    · split at hv
      · rename_i e; rw [if_pos e]; exact hy _ hv
      · rename_i e; rw [if_neg e]; exact hv
    · exact hv
    · exact hv
theorem Sval_blind {st : AStp} {s s' : St} {v : AV} (hb : st.op.blind = true) (ht : ∀ t ∈ st.reads, lk s.tm t = lk s'.tm t) (hv : Sval P s st v) : Sval P s' st v := by
  have h1 : Sval P { s with h := s'.h } st v := by
    obtain ⟨dst, g, op⟩ := st
    cases g with
    | none => exact Yes.blind hb hv
    | some p =>
      obtain ⟨t, want⟩ := p
      simp only [Sval] at hv ⊢
      cases hl : lk s.tm t with
      | bool b =>
        simp only [hl] at hv ⊢
        split
        · rename_i e; rw [if_pos e] at hv; exact Yes.blind hb hv
        · rename_i e; rw [if_neg e] at hv; exact hv
      | tup l => simp only [hl] at hv ⊢; exact hv
      | _ => simp only [hl] at hv
  exact Sval_congr (s := { s with h := s'.h }) rfl ht h1
/-- A step does not mind a temporary that it neither reads nor writes. -/
theorem stp_shift {y : AStp} {s : St} {K : St → Prop} {d : Option Nat} {v : AV} (hK : Shut K) (hr : ∀ t ∈ y.reads, d ≠ some t) (hd : ∀ t, d = some t → y.dst ≠ some t) (k : stp P Qp y { s with tm := putTm s.tm d v } K) :
    stp P Qp y s fun s1 => (∀ t, y.dst ≠ some t → lk s1.tm t = lk s.tm t) ∧ K { s1 with tm := putTm s1.tm d v } := by
  have hcomm : ∀ (tm : List (Nat × AV)) (u : AV), lk (putTm (putTm tm d v) y.dst u) = lk (putTm (putTm tm y.dst u) d v) := by
    intro tm u
    cases hdx : d with
    | none => rfl
    | some d =>
      cases hdy : y.dst with
      | none => rfl
      | some d' =>
        have hne : d' ≠ d := fun e => hd d hdx (by rw [hdy, e])
        funext t
        simp only [putTm, lk]
        by_cases hu1 : d = t
        · subst hu1; rw [if_neg hne, if_pos rfl, if_pos rfl]
        · rw [if_neg hu1]; simp [hu1]
  have hopd : ∀ (tm : List (Nat × AV)), ∀ x ∈ y.op.opds, ev (putTm tm d v) x = ev tm x := by
    intro tm x hx
    cases x with
    | c v => rfl
    | t n => exact lk_put_ne (hr n (by simp only [AStp.reads, List.mem_append]; exact .inl (List.mem_filterMap.2 ⟨.t n, hx, rfl⟩)))
  obtain ⟨dst, g, op⟩ := y
  cases g with
  | none =>
    simp only [stp] at k ⊢
    refine astep_mono ((astep_congr (hopd s.tm)) ▸ k) fun u h' k => ⟨fun t ht => lk_put_ne ht, ?_⟩
    refine hK _ _ ?_ k
    exact ⟨rfl, rfl, rfl, hcomm _ _⟩
  | some p =>
    obtain ⟨t, want⟩ := p
    simp only [stp] at k ⊢
    have hdt : d ≠ some t := hr t (by simp [AStp.reads])
    rw [lk_put_ne hdt] at k
    have hguard : ∀ b : Bool, lk ((t, AV.bool b) :: putTm s.tm d v) = lk (putTm ((t, AV.bool b) :: s.tm) d v) := by
      intro b
      cases hdx : d with
      | none => rfl
      | some d =>
        have hne : t ≠ d := fun e => hdt (by rw [hdx, e])
        funext u
        simp only [putTm, lk]
        by_cases hu1 : d = u
        · subst hu1; rw [if_neg hne, if_pos rfl, if_pos rfl]
        · rw [if_neg hu1]; simp [hu1]
    cases hb : lk s.tm t with
    | bool b =>
      simp only [hb] at k ⊢
      have hkn : ∀ (q : Bool), b = q → lk ((t, AV.bool q) :: s.tm) = lk s.tm := fun q e => lk_known (e ▸ hb)
      refine ⟨fun e => ?_, fun e => ⟨fun u hu => ?_, ?_⟩⟩
      · have k1 := k.1 e
        rw [astep_congr (fun x _ => congrFun (ev_lk (hguard want)) x), astep_congr (hopd ((t, AV.bool want) :: s.tm))] at k1
        refine astep_mono k1 fun u h' k => ⟨fun q hq => by rw [lk_put_ne hq, hkn want e], ?_⟩
        refine hK _ _ ?_ k
        refine ⟨rfl, rfl, rfl, ?_⟩
        exact (lk_put (hguard want) _ _).trans (hcomm _ _)
      · show lk (putTm ((t, AV.bool (!want)) :: s.tm) dst (.tup [])) u = _
        rw [lk_put_ne hu, hkn _ e]
      · refine hK _ _ ?_ (k.2 e)
        refine ⟨rfl, rfl, rfl, ?_⟩
        exact (lk_put (hguard (!want)) _ _).trans (hcomm _ _)
    | tup l =>
      simp only [hb] at k ⊢
      refine ⟨fun u hu => lk_put_ne hu, ?_⟩
      refine hK _ _ ?_ k
      exact ⟨rfl, rfl, rfl, hcomm _ _⟩
    | _ => simp only [hb] at k
theorem calm_heap {op : AOp} (hc : op.calm = true) {h : List AObj} {tm : List (Nat × AV)} {K Qp : AV → List AObj → Prop} (k : astep P h tm K Qp op) : astep P h tm (fun v h' => h' = h ∧ K v h') Qp op := by
  cases op with
  | callP f l =>
    obtain ⟨o, h1, h2⟩ := k
    exact ⟨o, h1, by cases o with
      | ret v => exact ⟨rfl, h2⟩
      | pan v => exact h2⟩
  | cvalP g l =>
    simp only [astep] at k ⊢
    split at k
    · obtain ⟨h1, o, h2, h3⟩ := k; exact ⟨h1, o, h2, by cases o with
      | ret v => exact ⟨trivial, h3⟩
      | pan v => exact h3⟩
    · exact k.elim
  | _ => cases hc
theorem stp_heap {y : AStp} (hc : y.op.calm = true) {s : St} {K : St → Prop} (k : stp P Qp y s K) : stp P Qp y s fun s1 => s1.h = s.h ∧ K s1 := by
  unfold stp at k ⊢
  split at k
  · exact astep_mono (calm_heap hc k) fun v h q => q
  · split at k
    · exact ⟨fun e => astep_mono (calm_heap hc (k.1 e)) fun v h q => q, fun e => ⟨rfl, k.2 e⟩⟩
    · exact ⟨rfl, k⟩
    · exact k.elim
theorem swap {x y : AStp} (hi : indep x y = true) {s : St} {K : St → Prop} (hK : Shut K) (k : stp P Qp x s fun s1 => stp P Qp y s1 K) : stp P Qp y s fun s1 => stp P Qp x s1 K := by
  simp only [indep, Bool.and_eq_true] at hi
  obtain ⟨⟨hst, h1⟩, h2⟩ := hi
  have hxd : ∀ t ∈ y.reads, x.dst ≠ some t := by
    intro t ht e
    rw [e] at h1
    simp at h1
    exact h1.1 ht
  have hyd : ∀ t ∈ x.reads, y.dst ≠ some t := by
    intro t ht e
    rw [e] at h2
    simp at h2
    exact h2 ht
  rw [Bool.or_eq_true, Bool.and_eq_true] at hst
  rw [Bool.or_eq_true] at hst
  rcases hst with ⟨hx, hy | hy⟩ | hx
  case inr =>
    obtain ⟨vx, p1, k⟩ := stp_steady (blind_steady hx) (fun s s' e k => stp_eqv hK e k) k
    refine stp_mono ?_ (stp_shift hK hxd (fun t e he => by
      rw [e] at h1
      simp at h1
      exact h1.2 he) k)
    rintro s1 ⟨g1, g2⟩
    exact stp_of_sval hK (Sval_blind hx (fun t ht => (g1 t (hyd t ht)).symm) p1) g2
  case inl.inr =>
    obtain ⟨vx, p1, k⟩ := stp_steady hx (fun s s' e k => stp_eqv hK e k) k
    refine stp_mono ?_ (stp_heap hy (stp_shift hK hxd (fun t e he => by
      rw [e] at h1
      simp at h1
      exact h1.2 he) k))
    rintro s1 ⟨hh, g1, g2⟩
    exact stp_of_sval hK (Sval_congr hh.symm (fun t ht => (g1 t (hyd t ht)).symm) p1) g2
  obtain ⟨vx, p1, k⟩ := stp_steady hx (fun s s' e k => stp_eqv hK e k) k
  obtain ⟨vy, p2, k⟩ := stp_steady hy hK k
  have q1 : Sval P { s with tm := putTm s.tm y.dst vy } x vx := Sval_congr (s := s) rfl (fun t ht => (lk_put_ne (hyd t ht)).symm) p1
  have q2 : Sval P s y vy := Sval_congr (s := { s with tm := putTm s.tm x.dst vx }) rfl (fun t ht => lk_put_ne (hxd t ht)) p2
  refine stp_of_sval (fun s s' e k => stp_eqv hK e k) q2 (stp_of_sval hK q1 ?_)
  · refine hK _ _ ?_ k
    refine ⟨rfl, rfl, rfl, ?_⟩
    show lk (putTm (putTm s.tm x.dst vx) y.dst vy) = lk (putTm (putTm s.tm y.dst vy) x.dst vx)
    cases hdx : x.dst with
    | none => simp only [putTm]
    | some d =>
      cases hdy : y.dst with
      | none => simp only [putTm]
      | some d' =>
        have hne : d' ≠ d := by
          intro e
          rw [hdx, hdy] at h1
          simp [e] at h1
        funext u
        simp only [putTm, lk]
        by_cases hu1 : d = u
        · subst hu1; rw [if_neg hne, if_pos rfl, if_pos rfl]
        · rw [if_neg hu1]; simp [hu1]
theorem pull {y : AStp} {K : St → Prop} (hK : Shut K) {l2 : List AStp} : ∀ {l1 : List AStp} {s : St}, (∀ x ∈ l1, indep x y = true) → run P Qp (l1 ++ y :: l2) s K → run P Qp (y :: (l1 ++ l2)) s K
  | [], s, _, k => k
  | x :: l1, s, h, k => by
    have k1 : stp P Qp x s fun s1 => stp P Qp y s1 fun s2 => run P Qp (l1 ++ l2) s2 K := stp_mono (fun s' k => pull hK (fun z hz => h z (by simp [hz])) k) k
    exact swap (h x (by simp)) (run_shut hK) k1

/-! Which steps may come next. -/
omit [Glob] in
theorem foldl_preds (acc : List Nat) (k : Nat) : ∀ (l : List Edge) (m : Nat), (l.foldl (fun s e => if Region.binds .any e then s ||| 2 ^ e.on ||| acc.getD e.on 0 else s) m).testBit k = true →
    m.testBit k = true ∨ ∃ e ∈ l, Region.binds .any e = true ∧ (e.on = k ∨ (acc.getD e.on 0).testBit k = true)
  | [], m, h => .inl h
  | e :: l, m, h => by
    simp only [List.foldl_cons] at h
    rcases foldl_preds acc k l _ h with h | ⟨e', h1, h2⟩
    · split at h
      · rename_i hb
        simp only [Nat.testBit_or, Bool.or_eq_true, Nat.testBit_two_pow, decide_eq_true_eq] at h
        rcases h with (h | h) | h
        · exact .inl h
        · exact .inr ⟨e, by simp, hb, .inl h⟩
        · exact .inr ⟨e, by simp, hb, .inr h⟩
      · exact .inl h
    · exact .inr ⟨e', by simp [h1], h2⟩
/-- Masks, each out of those ahead of it. -/
def MaskOK (ops : List Oper) (ms : List Nat) : Prop := ∀ (i : Nat) (o : Oper) (m k : Nat), ops[i]? = some o → ms[i]? = some m → m.testBit k = true → ∃ e ∈ o.after.toList, Region.binds .any e = true ∧ (e.on = k ∨ (e.on < i ∧ (ms.getD e.on 0).testBit k = true))
omit [Glob] in
theorem masks_ok : ∀ (r pre : List Oper) (acc : List Nat), acc.length = pre.length → MaskOK pre acc → MaskOK (pre ++ r) (masks r acc) ∧ (masks r acc).length = (pre ++ r).length
  | [], pre, acc, hl, h => by simpa [masks, hl] using h
  | o :: r, pre, acc, hl, h => by
    simp only [masks]
    have := masks_ok r (pre ++ [o]) (acc ++ [preds o acc]) (by simp [hl]) (by
      intro i o' m k e1 e2 hb
      rw [List.getElem?_append] at e1 e2
      have hg : ∀ j, j < acc.length → (acc ++ [preds o acc]).getD j 0 = acc.getD j 0 := by
        intro j hj
        rw [List.getD_eq_getElem?_getD, List.getElem?_append_left hj, ← List.getD_eq_getElem?_getD]
      by_cases hi : i < acc.length
      · rw [if_pos (by omega)] at e1; rw [if_pos hi] at e2
        obtain ⟨e, p1, p2, p3⟩ := h i o' m k e1 e2 hb
        refine ⟨e, p1, p2, p3.imp id fun p => ⟨p.1, ?_⟩⟩
        rw [hg _ (by omega)]; exact p.2
      · rw [if_neg (by omega)] at e1; rw [if_neg hi] at e2
        have h0 : i - acc.length = 0 := by
          have := (List.getElem?_eq_some_iff.1 e2).1
          simp at this; omega
        rw [← hl, h0] at e1; rw [h0] at e2
        simp at e1 e2
        subst e1 e2
        have hi2 : i = acc.length := by omega
        rcases foldl_preds acc k _ _ hb with hb | ⟨e, p1, p2, p3⟩
        · simp at hb
        · refine ⟨e, p1, p2, p3.imp id fun p => ?_⟩
          have hlt : e.on < acc.length := by
            rcases Nat.lt_or_ge e.on acc.length with h | h
            · exact h
            · rw [List.getD_eq_getElem?_getD, List.getElem?_eq_none h] at p; simp at p
          exact ⟨by omega, by rw [hg _ hlt]; exact p⟩)
    simpa using this
/-- What is listed is so with all that goes before it. -/
def Down (ops : Array Oper) (listed : Array Bool) : Prop := ∀ (i : Nat) (o : Oper), ops[i]? = some o → listed.getD i false = true → ∀ e ∈ o.after.toList, Region.binds .any e = true → listed.getD e.on false = true
omit [Glob] in
theorem mask_listed {ops : Array Oper} {ms : List Nat} (hm : MaskOK ops.toList ms) {listed : Array Bool} (hd : Down ops listed) : ∀ (i : Nat) (o : Oper) (m k : Nat), ops[i]? = some o → ms[i]? = some m → m.testBit k = true → (∀ e ∈ o.after.toList, Region.binds .any e = true → listed.getD e.on false = true) → listed.getD k false = true := by
  intro i
  induction i using Nat.strongRecOn with
  | _ i ih =>
    intro o m k e1 e2 hb hl
    obtain ⟨e, p1, p2, p3⟩ := hm i o m k (by simpa using e1) e2 hb
    have hon := hl e p1 p2
    rcases p3 with p3 | ⟨p3, p4⟩
    · rw [← p3]; exact hon
    · have hlt : i < ops.size := (Array.getElem?_eq_some_iff.1 e1).1
      have hms : e.on < ms.length := by have := (List.getElem?_eq_some_iff.1 e2).1; omega
      refine ih e.on p3 ops[e.on] ms[e.on] k (Array.getElem?_eq_getElem (by omega)) (List.getElem?_eq_getElem hms) ?_ (hd e.on _ (Array.getElem?_eq_getElem (by omega)) hon)
      rw [List.getD_eq_getElem?_getD, List.getElem?_eq_getElem hms] at p4
      exact p4

variable {X : Env} {lo : Option Nat} {w w0 : World} {h0 : List AObj} {b0 : List (Option Nat)} {a : Act} {bs : List (Option Nat)} {s : St} {Q : AEx → St → Prop}

def pend (n : Nat) (listed : Array Bool) : List Nat := (List.range n).filter fun i => !listed.getD i true

omit [Glob] in
theorem ready_iff {ops : Array Oper} {listed : Array Bool} {i : Nat} : i ∈ Region.ready .any ops listed ↔ ∃ o, ops[i]? = some o ∧ listed.getD i true = false ∧ ∀ e ∈ o.after.toList, Region.binds .any e = true → listed.getD e.on false = true := by
  simp only [Region.ready, List.mem_filter, List.mem_range, Bool.and_eq_true, Bool.not_eq_true']
  constructor
  · rintro ⟨h1, h2, h3⟩
    refine ⟨ops[i], Array.getElem?_eq_getElem h1, h2, ?_⟩
    rw [Array.getElem?_eq_getElem h1] at h3
    simp only [Option.map_some, Option.getD_some] at h3
    intro e he hb
    have := Array.all_eq_true_iff_forall_mem.1 h3 e (Array.mem_toList_iff.1 he)
    simpa [hb] using this
  · rintro ⟨o, h1, h2, h3⟩
    refine ⟨(Array.getElem?_eq_some_iff.1 h1).1, h2, ?_⟩
    rw [h1]
    simp only [Option.map_some, Option.getD_some]
    refine Array.all_eq_true_iff_forall_mem.2 fun e he => ?_
    by_cases hb : Region.binds .any e = true
    · simp [hb, h3 e (Array.mem_toList_iff.2 he) hb]
    · simp [hb]

omit [Glob] in
theorem downOK_spec : ∀ (l : List Oper) (n : Nat), downOK n l = true → ∀ (i : Nat) (o : Oper), l[i]? = some o → ∀ e ∈ o.after.toList, Region.binds .any e = true → e.on < n + i
  | [], n, h, i, o, e1 => by simp at e1
  | o :: r, n, h, i, o', e1 => by
    simp only [downOK, Bool.and_eq_true] at h
    cases i with
    | zero =>
      simp at e1; subst e1
      intro e he hb
      have := List.all_eq_true.1 h.1 e he
      simpa [hb] using this
    | succ i =>
      simp at e1
      intro e he hb
      have := downOK_spec r (n + 1) h.2 i o' e1 e he hb
      omega

omit [Glob] in
theorem pend_split {n i : Nat} {listed : Array Bool} (hi : i < n) (hs : listed.size = n) (hl : listed.getD i true = false) :
    pend n listed = (List.range i).filter (fun j => !listed.getD j true) ++ i :: (List.range' (i + 1) (n - i - 1)).filter (fun j => !listed.getD j true) ∧
    pend n (listed.setIfInBounds i true) = (List.range i).filter (fun j => !listed.getD j true) ++ (List.range' (i + 1) (n - i - 1)).filter (fun j => !listed.getD j true) := by
  have hr : List.range n = List.range i ++ i :: List.range' (i + 1) (n - i - 1) := by
    rw [List.range_eq_range', List.range_eq_range', show n = i + (1 + (n - i - 1)) by omega, ← List.range'_append_1, Nat.zero_add, Nat.add_comm 1, List.range'_succ]
    congr 3; omega
  have hne : ∀ j, j ≠ i → (listed.setIfInBounds i true).getD j true = listed.getD j true := by
    intro j hj
    rw [Array.getD_eq_getD_getElem?, Array.getElem?_setIfInBounds_ne (Ne.symm hj), ← Array.getD_eq_getD_getElem?]
  have hself : (listed.setIfInBounds i true).getD i true = true := by
    rw [Array.getD_eq_getD_getElem?, Array.getElem?_setIfInBounds_self_of_lt (by omega)]; rfl
  constructor
  · unfold pend
    rw [hr, List.filter_append, List.filter_cons_of_pos (by simp [hl])]
  · unfold pend
    rw [hr, List.filter_append, List.filter_cons_of_neg (by simp [hself])]
    congr 1
    · refine List.filter_congr fun j hj => ?_
      rw [hne j (by have := List.mem_range.1 hj; omega)]
    · refine List.filter_congr fun j hj => ?_
      rw [hne j (by have := List.mem_range'_1.1 hj; omega)]

/-- Steps in any order. -/
theorem any_sound (ro : Option Nat) {ops : Array Oper} {nt : Nat} {sts : List AStp} {ms : List Nat} {K : St → Prop} (hms : MaskOK ops.toList ms) (hml : ms.length = ops.size) (hdn : downOK 0 ops.toList = true) (hord : ordOK sts ms = true)
    (hlen : sts.length = ops.size) (hc : ∀ (j : Nat) (o : Oper), ops[j]? = some o → ∃ hint st, sts[j]? = some st ∧ compS P nt ops hint o = some st)
    (hK : Shut K) (hKQ : ∀ (s : St) (X : Env) (w : World) (a : Act) (bs : List (Option Nat)), s.nt = nt → K s → StRel X lo w a bs s → Fr w0 h0 b0 w s.h bs → h0.length ≤ s.base → lift X lo w0 h0 b0 Q .normal a w) :
    ∀ (fuel : Nat) (listed : Array Bool) (a : Act) (w : World) (s : St) (bs : List (Option Nat)), listed.size = ops.size → (pend ops.size listed).length ≤ fuel → Down ops listed → s.nt = nt →
      run P (fun v h => Q (.pan v) ⟨0, 0, [], h⟩) ((pend ops.size listed).filterMap (sts[·]?)) s K → StRel X lo w a bs s → Fr w0 h0 b0 w s.h bs → h0.length ≤ s.base → wpAnyIn (anyR ro) 0 P .any ops (lift X lo w0 h0 b0 Q) fuel listed a w := by
  have hempty : ∀ (listed : Array Bool), listed.size = ops.size → Down ops listed → Region.ready .any ops listed = [] → pend ops.size listed = [] := by
    intro listed hsz hD hr
    cases hp : pend ops.size listed with
    | nil => rfl
    | cons i r =>
      exfalso
      have hmem : ∃ i, i < ops.size ∧ listed.getD i true = false := by
        have : i ∈ pend ops.size listed := by rw [hp]; simp
        simp only [pend, List.mem_filter, List.mem_range, Bool.not_eq_true'] at this
        exact ⟨i, this⟩
      have hmin : ∃ i, (i < ops.size ∧ listed.getD i true = false) ∧ ∀ j, j < i → ¬(j < ops.size ∧ listed.getD j true = false) := by
        obtain ⟨i, hi⟩ := hmem
        induction i using Nat.strongRecOn with
        | _ i ih =>
          by_cases h : ∃ j, j < i ∧ (j < ops.size ∧ listed.getD j true = false)
          · obtain ⟨j, hj, hq⟩ := h; exact ih j hj hq
          · exact ⟨i, hi, fun j hj hq => h ⟨j, hj, hq⟩⟩
      obtain ⟨i, ⟨h1, h2⟩, h3⟩ := hmin
      have : i ∈ Region.ready .any ops listed := ready_iff.2 ⟨ops[i], Array.getElem?_eq_getElem h1, h2, fun e he hb => by
        have hlt := downOK_spec ops.toList 0 hdn i ops[i] (by simp [h1]) e he hb
        have hn := h3 e.on (by omega)
        have hlo : e.on < ops.size := by omega
        cases hv : listed.getD e.on true with
        | false => exact absurd ⟨hlo, hv⟩ hn
        | true =>
          rw [Array.getD_eq_getD_getElem?] at hv ⊢
          cases hg : listed[e.on]? with
          | some b => rw [hg] at hv; exact hv
          | none =>
            have := Array.getElem?_eq_none_iff.1 hg
            omega⟩
      rw [hr] at this; cases this
  have hsub : ∀ (listed : Array Bool) (i : Nat), i ∈ Region.ready .any ops listed → i < ops.size ∧ listed.getD i true = false := by
    intro listed i hi
    obtain ⟨o, h1, h2, _⟩ := ready_iff.1 hi
    exact ⟨(Array.getElem?_eq_some_iff.1 h1).1, h2⟩
  have hfin : ∀ (listed : Array Bool) (a : Act) (w : World) (s : St) (bs : List (Option Nat)), listed.size = ops.size → Down ops listed → s.nt = nt → run P (fun v h => Q (.pan v) ⟨0, 0, [], h⟩) ((pend ops.size listed).filterMap (sts[·]?)) s K → StRel X lo w a bs s → Fr w0 h0 b0 w s.h bs → h0.length ≤ s.base →
      Region.ready .any ops listed = [] → lift X lo w0 h0 b0 Q .normal a w := by
    intro listed a w s bs hsz hD hnt hr r f g hrd
    rw [hempty listed hsz hD hrd] at hr
    exact hKQ s X w a bs hnt hr r f g
  intro fuel
  induction fuel with
  | zero =>
    intro listed a w s bs hsz hf hD hnt hr r f g
    have hp : pend ops.size listed = [] := List.length_eq_zero_iff.1 (by omega)
    have hrd : Region.ready .any ops listed = [] := by
      cases hq : Region.ready .any ops listed with
      | nil => rfl
      | cons i l =>
        exfalso
        obtain ⟨h1, h2⟩ := hsub listed i (by rw [hq]; simp)
        have : i ∈ pend ops.size listed := by simp only [pend, List.mem_filter, List.mem_range, h2]; exact ⟨h1, rfl⟩
        rw [hp] at this; cases this
    exact ⟨hrd, hfin listed a w s bs hsz hD hnt hr r f g hrd⟩
  | succ fuel ih =>
    intro listed a w s bs hsz hf hD hnt hr r f g
    refine ⟨hfin listed a w s bs hsz hD hnt hr r f g, fun i hi => ?_⟩
    obtain ⟨o, ho, hl, hpre⟩ := ready_iff.1 hi
    have hlt : i < ops.size := (Array.getElem?_eq_some_iff.1 ho).1
    obtain ⟨p1, p2⟩ := pend_split hlt hsz hl
    obtain ⟨hint, st, hst, hcs⟩ := hc i o ho
    rw [p1, List.filterMap_append, List.filterMap_cons_some hst] at hr
    have hind : ∀ x ∈ ((List.range i).filter (fun j => !listed.getD j true)).filterMap (sts[·]?), indep x st = true := by
      intro x hx
      obtain ⟨k, hk, hkx⟩ := List.mem_filterMap.1 hx
      simp only [List.mem_filter, List.mem_range, Bool.not_eq_true'] at hk
      have h1 := List.all_eq_true.1 hord i (by rw [List.mem_range]; omega)
      have h2 := List.all_eq_true.1 h1 k (by rw [List.mem_range]; exact hk.1)
      rw [Bool.or_eq_true] at h2
      rcases h2 with h2 | h2
      · exfalso
        have hmi : ms[i]? = some ms[i] := List.getElem?_eq_getElem (by omega)
        rw [List.getD_eq_getElem?_getD, hmi] at h2
        have := mask_listed hms hD i o _ k ho hmi h2 hpre
        have hk2 := hk.2
        rw [Array.getD_eq_getD_getElem?] at this hk2
        cases hg : listed[k]? with
        | none => rw [hg] at hk2; simp at hk2
        | some b => rw [hg] at hk2 this; simp at hk2 this; rw [hk2] at this; cases this
      · rw [hkx, hst] at h2; exact h2
    have hr2 := pull hK hind hr
    simp only [run] at hr2
    refine wpOpIn_mono ?_ (stp_sound ro (Q := Q) ho hcs hnt r f g (stp_nt hr2))
    rintro a' w' ⟨s', bs', ⟨n', k'⟩, r', f', g'⟩
    refine ih (listed.setIfInBounds i true) a' w' s' bs' (by simp [hsz]) ?_ ?_ (by rw [n']; exact hnt) ?_ r' f' g'
    · rw [p2]; rw [p1] at hf; simp at hf ⊢; omega
    · intro j o' hj hlj e he hb
      have hmono : ∀ q, listed.getD q false = true → (listed.setIfInBounds i true).getD q false = true := by
        intro q hq
        by_cases hqi : q = i
        · rw [hqi, Array.getD_eq_getD_getElem?, Array.getElem?_setIfInBounds_self_of_lt (by omega)]; rfl
        · rw [Array.getD_eq_getD_getElem?, Array.getElem?_setIfInBounds_ne (Ne.symm hqi), ← Array.getD_eq_getD_getElem?]; exact hq
      by_cases hji : j = i
      · subst hji
        rw [ho] at hj; cases hj
        exact hmono _ (hpre e he hb)
      · rw [Array.getD_eq_getD_getElem?, Array.getElem?_setIfInBounds_ne (Ne.symm hji), ← Array.getD_eq_getD_getElem?] at hlj
        exact hmono _ (hD j o' hj hlj e he hb)
    · rw [p2, List.filterMap_append]; exact k'

/-- Steps that are laid in an order of their own: which is which, and that they may be taken in any order that is let. -/
def ordOKp : List (Nat × AStp) → List Nat → Bool
  | [], _ => true
  | (k, x) :: r, ms => (r.all fun p => (ms.getD p.1 0).testBit k || indep x p.2) && ordOKp r ms
def left (Z : List (Nat × AStp)) (listed : Array Bool) : List (Nat × AStp) := Z.filter fun p => !listed.getD p.1 true
omit [Glob] in
theorem left_split {Z : List (Nat × AStp)} (hn : (Z.map (·.1)).Nodup) {listed : Array Bool} {i : Nat} {st : AStp} (hm : (i, st) ∈ Z) (hl : listed.getD i true = false) (hi : i < listed.size) :
    ∃ l1 l2 Z1 Z2, Z = Z1 ++ (i, st) :: Z2 ∧ left Z listed = l1 ++ (i, st) :: l2 ∧ left Z (listed.setIfInBounds i true) = l1 ++ l2 ∧ (∀ p ∈ l1, p ∈ Z1 ∧ listed.getD p.1 true = false) := by
  obtain ⟨Z1, Z2, rfl⟩ := List.append_of_mem hm
  have hne : ∀ j, j ≠ i → (listed.setIfInBounds i true).getD j true = listed.getD j true := by
    intro j hj
    rw [Array.getD_eq_getD_getElem?, Array.getElem?_setIfInBounds_ne (Ne.symm hj), ← Array.getD_eq_getD_getElem?]
  have hself : (listed.setIfInBounds i true).getD i true = true := by
    rw [Array.getD_eq_getD_getElem?, Array.getElem?_setIfInBounds_self_of_lt hi]; rfl
  rw [List.map_append, List.map_cons, List.nodup_append] at hn
  obtain ⟨n1, n2, n3⟩ := hn
  have m1 : ∀ p ∈ Z1, p.1 ≠ i := fun p hp => n3 p.1 (List.mem_map_of_mem hp) i (List.mem_cons_self ..)
  have m2 : ∀ p ∈ Z2, p.1 ≠ i := fun p hp e => (List.nodup_cons.1 n2).1 (List.mem_map.2 ⟨p, hp, e⟩)
  refine ⟨left Z1 listed, left Z2 listed, Z1, Z2, rfl, ?_, ?_, fun p hp => ?_⟩
  · unfold left
    rw [List.filter_append, List.filter_cons_of_pos (by simp [hl])]
  · unfold left
    rw [List.filter_append, List.filter_cons_of_neg (by simp [hself])]
    congr 1
    · exact List.filter_congr fun p hp => by rw [hne _ (m1 p hp)]
    · exact List.filter_congr fun p hp => by rw [hne _ (m2 p hp)]
  · simp only [left, List.mem_filter, Bool.not_eq_true'] at hp; exact hp
omit [Glob] in
theorem ordOKp_spec {ms : List Nat} : ∀ {Z1 Z2 : List (Nat × AStp)} {p : Nat × AStp}, ordOKp (Z1 ++ p :: Z2) ms = true → ∀ q ∈ Z1, ((ms.getD p.1 0).testBit q.1 || indep q.2 p.2) = true
  | [], Z2, p, h, q, hq => by cases hq
  | z :: Z1, Z2, p, h, q, hq => by
    simp only [List.cons_append, ordOKp, Bool.and_eq_true] at h
    rcases List.mem_cons.1 hq with rfl | hq
    · exact List.all_eq_true.1 h.1 p (by simp)
    · exact ordOKp_spec h.2 q hq
theorem any_soundP (ro : Option Nat) {ops : Array Oper} {nt : Nat} {Z : List (Nat × AStp)} {ms : List Nat} {K : St → Prop} (hms : MaskOK ops.toList ms) (hml : ms.length = ops.size) (hdn : downOK 0 ops.toList = true) (hord : ordOKp Z ms = true)
    (hn : (Z.map (·.1)).Nodup) (hall : ∀ i, i < ops.size → ∃ st, (i, st) ∈ Z) (hc : ∀ p ∈ Z, ∃ o hint, ops[p.1]? = some o ∧ compS P nt ops hint o = some p.2)
    (hK : Shut K) (hKQ : ∀ (s : St) (X : Env) (w : World) (a : Act) (bs : List (Option Nat)), s.nt = nt → K s → StRel X lo w a bs s → Fr w0 h0 b0 w s.h bs → h0.length ≤ s.base → lift X lo w0 h0 b0 Q .normal a w) :
    ∀ (fuel : Nat) (listed : Array Bool) (a : Act) (w : World) (s : St) (bs : List (Option Nat)), listed.size = ops.size → (left Z listed).length ≤ fuel → Down ops listed → s.nt = nt →
      run P (fun v h => Q (.pan v) ⟨0, 0, [], h⟩) ((left Z listed).map (·.2)) s K → StRel X lo w a bs s → Fr w0 h0 b0 w s.h bs → h0.length ≤ s.base → wpAnyIn (anyR ro) 0 P .any ops (lift X lo w0 h0 b0 Q) fuel listed a w := by
  have hempty : ∀ (listed : Array Bool), listed.size = ops.size → Down ops listed → Region.ready .any ops listed = [] → left Z listed = [] := by
    intro listed hsz hD hr
    cases hp : left Z listed with
    | nil => rfl
    | cons p r =>
      exfalso
      have hmem : ∃ i, i < ops.size ∧ listed.getD i true = false := by
        have : p ∈ left Z listed := by rw [hp]; simp
        simp only [left, List.mem_filter, Bool.not_eq_true'] at this
        obtain ⟨o, _, ho, _⟩ := hc p this.1
        exact ⟨p.1, (Array.getElem?_eq_some_iff.1 ho).1, this.2⟩
      have hmin : ∃ i, (i < ops.size ∧ listed.getD i true = false) ∧ ∀ j, j < i → ¬(j < ops.size ∧ listed.getD j true = false) := by
        obtain ⟨i, hi⟩ := hmem
        induction i using Nat.strongRecOn with
        | _ i ih =>
          by_cases h : ∃ j, j < i ∧ (j < ops.size ∧ listed.getD j true = false)
          · obtain ⟨j, hj, hq⟩ := h; exact ih j hj hq
          · exact ⟨i, hi, fun j hj hq => h ⟨j, hj, hq⟩⟩
      obtain ⟨i, ⟨h1, h2⟩, h3⟩ := hmin
      have : i ∈ Region.ready .any ops listed := ready_iff.2 ⟨ops[i], Array.getElem?_eq_getElem h1, h2, fun e he hb => by
        have hlt := downOK_spec ops.toList 0 hdn i ops[i] (by simp [h1]) e he hb
        have hn := h3 e.on (by omega)
        have hlo : e.on < ops.size := by omega
        cases hv : listed.getD e.on true with
        | false => exact absurd ⟨hlo, hv⟩ hn
        | true =>
          rw [Array.getD_eq_getD_getElem?] at hv ⊢
          cases hg : listed[e.on]? with
          | some b => rw [hg] at hv; exact hv
          | none =>
            have := Array.getElem?_eq_none_iff.1 hg
            omega⟩
      rw [hr] at this; cases this
  have hfin : ∀ (listed : Array Bool) (a : Act) (w : World) (s : St) (bs : List (Option Nat)), listed.size = ops.size → Down ops listed → s.nt = nt → run P (fun v h => Q (.pan v) ⟨0, 0, [], h⟩) ((left Z listed).map (·.2)) s K → StRel X lo w a bs s → Fr w0 h0 b0 w s.h bs → h0.length ≤ s.base →
      Region.ready .any ops listed = [] → lift X lo w0 h0 b0 Q .normal a w := by
    intro listed a w s bs hsz hD hnt hr r f g hrd
    rw [hempty listed hsz hD hrd] at hr
    exact hKQ s X w a bs hnt hr r f g
  intro fuel
  induction fuel with
  | zero =>
    intro listed a w s bs hsz hf hD hnt hr r f g
    have hp : left Z listed = [] := List.length_eq_zero_iff.1 (by omega)
    have hrd : Region.ready .any ops listed = [] := by
      cases hq : Region.ready .any ops listed with
      | nil => rfl
      | cons i l =>
        exfalso
        obtain ⟨o, h1, h2, _⟩ := ready_iff.1 (show i ∈ Region.ready .any ops listed by rw [hq]; simp)
        obtain ⟨st, hst⟩ := hall i (Array.getElem?_eq_some_iff.1 h1).1
        have : (i, st) ∈ left Z listed := by simp only [left, List.mem_filter, h2]; exact ⟨hst, rfl⟩
        rw [hp] at this; cases this
    exact ⟨hrd, hfin listed a w s bs hsz hD hnt hr r f g hrd⟩
  | succ fuel ih =>
    intro listed a w s bs hsz hf hD hnt hr r f g
    refine ⟨hfin listed a w s bs hsz hD hnt hr r f g, fun i hi => ?_⟩
    obtain ⟨o, ho, hl, hpre⟩ := ready_iff.1 hi
    have hlt : i < ops.size := (Array.getElem?_eq_some_iff.1 ho).1
    obtain ⟨st, hst⟩ := hall i hlt
    obtain ⟨l1, l2, Z1, Z2, rfl, p1, p2, p3⟩ := left_split hn hst hl (by omega)
    obtain ⟨o', hint, ho', hcs⟩ := hc _ hst
    rw [ho] at ho'; cases ho'
    rw [p1, List.map_append, List.map_cons] at hr
    have hind : ∀ x ∈ l1.map (·.2), indep x st = true := by
      intro x hx
      obtain ⟨q, hq, rfl⟩ := List.mem_map.1 hx
      obtain ⟨q1, q2⟩ := p3 q hq
      have h2 := ordOKp_spec hord q q1
      rw [Bool.or_eq_true] at h2
      rcases h2 with h2 | h2
      · exfalso
        have hmi : ms[i]? = some ms[i] := List.getElem?_eq_getElem (by omega)
        rw [List.getD_eq_getElem?_getD, hmi] at h2
        have := mask_listed hms hD i o _ q.1 ho hmi h2 hpre
        rw [Array.getD_eq_getD_getElem?] at this q2
        cases hg : listed[q.1]? with
        | none => rw [hg] at q2; simp at q2
        | some b => rw [hg] at q2 this; simp at q2 this; rw [q2] at this; cases this
      · exact h2
    have hr2 := pull hK hind hr
    simp only [run] at hr2
    refine wpOpIn_mono ?_ (stp_sound ro (Q := Q) ho hcs hnt r f g (stp_nt hr2))
    rintro a' w' ⟨s', bs', ⟨n', k'⟩, r', f', g'⟩
    refine ih (listed.setIfInBounds i true) a' w' s' bs' (by simp [hsz]) ?_ ?_ (by rw [n']; exact hnt) ?_ r' f' g'
    · rw [p2]; rw [p1] at hf; simp at hf ⊢; omega
    · intro j o' hj hlj e he hb
      have hmono : ∀ q, listed.getD q false = true → (listed.setIfInBounds i true).getD q false = true := by
        intro q hq
        by_cases hqi : q = i
        · rw [hqi, Array.getD_eq_getD_getElem?, Array.getElem?_setIfInBounds_self_of_lt (by omega)]; rfl
        · rw [Array.getD_eq_getD_getElem?, Array.getElem?_setIfInBounds_ne (Ne.symm hqi), ← Array.getD_eq_getD_getElem?]; exact hq
      by_cases hji : j = i
      · subst hji
        rw [ho] at hj; cases hj
        exact hmono _ (hpre e he hb)
      · rw [Array.getD_eq_getD_getElem?, Array.getElem?_setIfInBounds_ne (Ne.symm hji), ← Array.getD_eq_getD_getElem?] at hlj
        exact hmono _ (hD j o' hj hlj e he hb)
    · rw [p2, List.map_append]; exact k'
end

end Go.Pe
