/- Regions of the calculus 'Pe': steps, that they may be taken in their order, and in any order where the order is free; compact code and its rules. No program in sight; no conditions. -/
import Derived.Test.YtmgoencdjkaobaaGreatDoorPeD
set_option linter.unusedVariables false
set_option linter.unusedSimpArgs false
namespace Go.Pe

theorem binI_val {op : BinOp} {k : IntKind} {a b : Int} {K : AV → Prop} (hk : binI op k a b K) : ∃ v, K v ∧ ∀ K' : AV → Prop, K' v → binI op k a b K' := by
  cases op <;> simp only [binI] at hk ⊢ <;> first | exact hk.elim | exact ⟨_, hk, fun _ h => h⟩ | exact ⟨_, hk.2, fun _ h => ⟨hk.1, h⟩⟩
theorem binS_val {op : BinOp} {a b : List UInt8} {K : AV → Prop} (hk : binS op a b K) : ∃ v, K v ∧ ∀ K' : AV → Prop, K' v → binS op a b K' := by
  cases op <;> simp only [binS] at hk ⊢ <;> first | exact hk.elim | exact ⟨_, hk, fun _ h => h⟩ | exact ⟨_, hk.2, fun _ h => ⟨hk.1, h⟩⟩
theorem bound_val {tm : List (Nat × AV)} {d : Int} {x : Option Opd} {K : Int → Prop} (hk : bound tm d x K) : ∃ v, K v ∧ ∀ K' : Int → Prop, K' v → bound tm d x K' := by
  cases x with
  | none => exact ⟨_, hk, fun _ h => h⟩
  | some x =>
    simp only [bound] at hk
    split at hk
    · rename_i e; exact ⟨_, hk, fun _ h => by simp only [bound, e]; exact h⟩
    · exact hk.elim
theorem bldK_val {f : Opd → AV} : ∀ {ps : List (Nat × Nat × Opd)} {z : List AV} {K : List AV → Prop}, bldK f z ps K → ∃ l, K l ∧ ∀ K' : List AV → Prop, K' l → bldK f z ps K'
  | [], z, K, hk => ⟨z, hk, fun _ h => h⟩
  | (off, n, x) :: r, z, K, hk => by
    obtain ⟨l, h1, h2⟩ := bldK_val hk.2
    exact ⟨l, h1, fun K' h => ⟨hk.1, h2 K' h⟩⟩

/-- What yields something yields one thing. -/
theorem aval_val {h : List AObj} {tm : List (Nat × AV)} {e : AExp} {K : AV → Prop} (hk : aval h tm e K) : ∃ v, K v ∧ ∀ K' : AV → Prop, K' v → aval h tm e K' := by
  cases e with
  | mov x => exact ⟨_, hk, fun _ h => h⟩
  | pick c x y =>
    simp only [aval] at hk ⊢
    split at hk
    · rename_i b e
      cases b with
      | true => exact ⟨_, hk.1 rfl, fun _ h => ⟨fun _ => h, fun e => by cases e⟩⟩
      | false => exact ⟨_, hk.2 rfl, fun _ h => ⟨(fun e => by cases e), fun _ => h⟩⟩
    · exact hk.elim
  | bin op x y =>
    simp only [aval] at hk ⊢
    split at hk
    · obtain ⟨v, h1, h2⟩ := binI_val hk.2; exact ⟨v, h1, fun K' h => ⟨hk.1, h2 K' h⟩⟩
    · exact binS_val hk
    · exact hk.elim
  | slS x lo hi =>
    simp only [aval] at hk ⊢
    split at hk
    · obtain ⟨l, h1, h2⟩ := bound_val hk
      obtain ⟨r, h3, h4⟩ := bound_val h1
      exact ⟨_, h3.2, fun K' h => h2 _ (h4 _ ⟨h3.1, h⟩)⟩
    · exact hk.elim
  | slL sz x lo hi =>
    simp only [aval] at hk ⊢
    split at hk
    · obtain ⟨l, h1, h2⟩ := bound_val hk
      obtain ⟨r, h3, h4⟩ := bound_val h1
      exact ⟨_, h3.2, fun K' h => h2 _ (h4 _ ⟨h3.1, h⟩)⟩
    · obtain ⟨l, h1, h2⟩ := bound_val hk
      obtain ⟨r, h3, h4⟩ := bound_val h1
      exact ⟨_, h3.2, fun K' h => h2 _ (h4 _ ⟨h3.1, h⟩)⟩
    · split at hk
      · obtain ⟨l, h1, h2⟩ := bound_val hk
        obtain ⟨r, h3, h4⟩ := bound_val h1
        exact ⟨_, h3.2, fun K' h => h2 _ (h4 _ ⟨h3.1, h⟩)⟩
      · exact hk.elim
    · exact hk.elim
  | bld z ps => 
    obtain ⟨l, h1, h2⟩ := bldK_val hk
    exact ⟨_, h1, fun K' h => h2 _ h⟩
  | mx g x y =>
    simp only [aval] at hk ⊢
    split at hk
    · exact ⟨_, hk.2, fun _ h => ⟨hk.1, h⟩⟩
    · exact hk.elim
  | _ =>
    simp only [aval] at hk ⊢
    repeat' split at hk
    all_goals first | exact hk.elim | exact ⟨_, hk, fun _ h => h⟩ | exact ⟨_, hk.2, fun _ h => ⟨hk.1, h⟩⟩ | exact hk.2.elim

theorem aval_mono {h : List AObj} {tm : List (Nat × AV)} {e : AExp} {K K' : AV → Prop} (hk : aval h tm e K) (hm : ∀ v, K v → K' v) : aval h tm e K' :=
  let ⟨v, h1, h2⟩ := aval_val hk
  h2 K' (hm v h1)

def AExp.opds : AExp → List Opd
  | .mov x | .un _ x | .cint _ x | .cstr x | .load _ _ x | .fad _ x | .fld _ _ _ x | .ext x _ | .lenS x | .lenL x | .bstr x | .mki _ x | .nck x | .isN _ _ x => [x]
  | .pick c x y => [c, x, y]
  | .bin _ x y | .binB _ x y | .mx _ x y | .iad _ x y | .idx x y | .eqA _ _ x y => [x, y]
  | .slS x lo hi | .slL _ x lo hi => x :: (lo.toList ++ hi.toList)
  | .mkf _ l => l
  | .bld _ ps => ps.map fun p => p.2.2
theorem bound_congr {tm tm' : List (Nat × AV)} {d : Int} {x : Option Opd} {K : Int → Prop} (h : ∀ y ∈ x.toList, ev tm y = ev tm' y) : bound tm d x K = bound tm' d x K := by
  cases x with
  | none => rfl
  | some x => simp only [bound, h x (by simp)]
theorem bldK_congr {f g : Opd → AV} : ∀ {ps : List (Nat × Nat × Opd)} {z : List AV} {K : List AV → Prop}, (∀ p ∈ ps, f p.2.2 = g p.2.2) → bldK f z ps K = bldK g z ps K
  | [], z, K, _ => rfl
  | (off, n, x) :: r, z, K, h => by
    have hx : f x = g x := h (off, n, x) (by simp)
    simp only [bldK, hx]
    rw [bldK_congr (ps := r) fun p hp => h p (by simp [hp])]
theorem aval_congr {h : List AObj} {tm tm' : List (Nat × AV)} {e : AExp} {K : AV → Prop} (he : ∀ x ∈ e.opds, ev tm x = ev tm' x) : aval h tm e K = aval h tm' e K := by
  cases e with
  | slS x lo hi =>
    have h1 : ∀ {d : Int} {K : Int → Prop}, bound tm d lo K = bound tm' d lo K := bound_congr fun y hy => he y (by simp [AExp.opds]; right; left; simpa using hy)
    have h2 : ∀ {d : Int} {K : Int → Prop}, bound tm d hi K = bound tm' d hi K := bound_congr fun y hy => he y (by simp [AExp.opds]; right; right; simpa using hy)
    simp only [aval, he x (by simp [AExp.opds]), h1, h2]
  | slL sz x lo hi =>
    have h1 : ∀ {d : Int} {K : Int → Prop}, bound tm d lo K = bound tm' d lo K := bound_congr fun y hy => he y (by simp [AExp.opds]; right; left; simpa using hy)
    have h2 : ∀ {d : Int} {K : Int → Prop}, bound tm d hi K = bound tm' d hi K := bound_congr fun y hy => he y (by simp [AExp.opds]; right; right; simpa using hy)
    simp only [aval, he x (by simp [AExp.opds]), h1, h2]
  | mkf f l =>
    have : l.map (ev tm) = l.map (ev tm') := List.map_congr_left fun x hx => he x (by simpa [AExp.opds] using hx)
    simp only [aval, this]
  | bld z ps =>
    simp only [aval]
    exact bldK_congr fun p hp => he _ (by simp only [AExp.opds]; exact List.mem_map.2 ⟨p, hp, rfl⟩)
  | pick c x y => simp only [aval, he c (by simp [AExp.opds]), he x (by simp [AExp.opds]), he y (by simp [AExp.opds])]
  | bin _ x y => simp only [aval, he x (by simp [AExp.opds]), he y (by simp [AExp.opds])]
  | binB _ x y => simp only [aval, he x (by simp [AExp.opds]), he y (by simp [AExp.opds])]
  | iad _ x y => simp only [aval, he x (by simp [AExp.opds]), he y (by simp [AExp.opds])]
  | idx x y => simp only [aval, he x (by simp [AExp.opds]), he y (by simp [AExp.opds])]
  | eqA _ _ x y => simp only [aval, he x (by simp [AExp.opds]), he y (by simp [AExp.opds])]
  | mov x => simp only [aval, he x (by simp [AExp.opds])]
  | un _ x => simp only [aval, he x (by simp [AExp.opds])]
  | cint _ x => simp only [aval, he x (by simp [AExp.opds])]
  | cstr x => simp only [aval, he x (by simp [AExp.opds])]
  | load _ _ x => simp only [aval, he x (by simp [AExp.opds])]
  | fad _ x => simp only [aval, he x (by simp [AExp.opds])]
  | fld _ _ _ x => simp only [aval, he x (by simp [AExp.opds])]
  | ext x _ => simp only [aval, he x (by simp [AExp.opds])]
  | lenS x => simp only [aval, he x (by simp [AExp.opds])]
  | lenL x => simp only [aval, he x (by simp [AExp.opds])]
  | bstr x => simp only [aval, he x (by simp [AExp.opds])]
  | mx _ x y => simp only [aval, he x (by simp [AExp.opds]), he y (by simp [AExp.opds])]
  | mki _ x => simp only [aval, he x (by simp [AExp.opds])]
  | nck x => simp only [aval, he x (by simp [AExp.opds])]
  | isN _ _ x => simp only [aval, he x (by simp [AExp.opds])]

def AOp.opds : AOp → List Opd
  | .e x => x.opds
  | .alloc .. => []
  | .box _ _ x | .pan x => [x]
  | .store _ p x => [p, x]
  | .app _ _ _ x y => [x, y]
  | .bsl _ _ l | .lit _ l | .call _ l | .callV _ l | .callP _ l | .callO _ l => l
  | .cval g l | .cvalV g l | .yld g l | .cvalP g l | .cvalO g l => g :: l
theorem appTo_mono {sz ty bytes : Nat} {h : List AObj} {x : AV} {ys : List AV} {K K' : AV → List AObj → Prop} (hk : appTo sz ty bytes h x ys K) (hm : ∀ v h, K v h → K' v h) : appTo sz ty bytes h x ys K' := by
  unfold appTo at hk ⊢
  repeat' split at hk
  all_goals first | exact hk.elim | exact ⟨hk.1, hm _ _ hk.2⟩
section
variable [Glob] {P : Program}
theorem astep_mono {h : List AObj} {tm : List (Nat × AV)} {K K' Qp : AV → List AObj → Prop} {op : AOp} (hk : astep P h tm K Qp op) (hm : ∀ v h, K v h → K' v h) : astep P h tm K' Qp op := by
  cases op with
  | e x => exact aval_mono hk fun v h => hm _ _ h
  | alloc sz ty z => exact hm _ _ hk
  | box sz ty x => exact ⟨hk.1, hm _ _ hk.2⟩
  | store n p x =>
    simp only [astep] at hk ⊢
    repeat' split at hk
    all_goals first | exact hk.elim | exact ⟨hk.1, hm _ _ hk.2⟩
  | app sz ty bytes x y =>
    simp only [astep] at hk ⊢
    repeat' split at hk
    all_goals first | exact hk.elim | exact ⟨hk.1, appTo_mono hk.2 hm⟩ | exact appTo_mono hk hm
  | bsl sz ty l => exact ⟨hk.1, hm _ _ hk.2⟩
  | lit sz l => exact ⟨hk.1, hm _ _ hk.2⟩
  | callV f l => exact let ⟨v, h1, h2⟩ := hk; ⟨v, h1, hm _ _ h2⟩
  | callO f l => exact let ⟨v, h1, h2⟩ := hk; ⟨v, h1, hm _ _ h2⟩
  | cvalO g l =>
    simp only [astep] at hk ⊢
    split at hk
    · obtain ⟨h1, v, h2, h3⟩ := hk; exact ⟨h1, v, h2, hm _ _ h3⟩
    · exact hk.elim
  | callP f l => exact let ⟨o, h1, h2⟩ := hk; ⟨o, h1, by cases o <;> first | exact hm _ _ h2 | exact h2⟩
  | cvalP g l =>
    simp only [astep] at hk ⊢
    split at hk
    · obtain ⟨h1, o, h2, h3⟩ := hk; exact ⟨h1, o, h2, by cases o <;> first | exact hm _ _ h3 | exact h3⟩
    · exact hk.elim
  | call f l =>
    simp only [astep] at hk ⊢
    exact VH.mono hk fun o h' k => by cases o <;> first | exact hm _ _ k | exact k
  | cval g l =>
    simp only [astep] at hk ⊢
    split at hk
    · exact ⟨hk.1, hk.2.mono fun o h' k => by cases o <;> first | exact hm _ _ k | exact k⟩
    · exact hk.elim
  | cvalV g l =>
    simp only [astep] at hk ⊢
    split at hk
    · obtain ⟨h1, v, h2, h3⟩ := hk; exact ⟨h1, v, h2, hm _ _ h3⟩
    · exact hk.elim
  | yld g l =>
    simp only [astep] at hk ⊢
    split at hk
    · exact hk.mono fun o h' k => by cases o <;> first | exact hm _ _ k | exact k
    · exact hk.elim
  | pan x => exact hk
theorem astep_congr {h : List AObj} {tm tm' : List (Nat × AV)} {K Qp : AV → List AObj → Prop} {op : AOp} (he : ∀ x ∈ op.opds, ev tm x = ev tm' x) : astep P h tm K Qp op = astep P h tm' K Qp op := by
  cases op with
  | e x => exact aval_congr he
  | alloc sz ty z => rfl
  | box sz ty x => simp only [astep, he x (by simp [AOp.opds])]
  | pan x => simp only [astep, he x (by simp [AOp.opds])]
  | store n p x => simp only [astep, he x (by simp [AOp.opds]), he p (by simp [AOp.opds])]
  | app sz ty bytes x y => simp only [astep, he x (by simp [AOp.opds]), he y (by simp [AOp.opds])]
  | cval g l | cvalV g l | yld g l | cvalP g l | cvalO g l =>
    have : l.map (ev tm) = l.map (ev tm') := List.map_congr_left fun x hx => he x (by simp [AOp.opds, hx])
    simp only [astep, this, he g (by simp [AOp.opds])]
  | bsl sz ty l | lit sz l | call f l | callV f l | callP f l | callO f l =>
    have : l.map (ev tm) = l.map (ev tm') := List.map_congr_left fun x hx => he x (by simpa [AOp.opds] using hx)
    simp only [astep, this]
end

/-- A step: where to, when (a temporary, and what it is to hold), what. -/
structure AStp where
  dst : Option Nat
  g : Option (Nat × Bool)
  op : AOp
  deriving Inhabited
def stp [Glob] (P : Program) (Qp : AV → List AObj → Prop) (st : AStp) (s : St) (K : St → Prop) : Prop :=
  match st.g with
  | none => astep P s.h s.tm (fun v h' => K { s with tm := putTm s.tm st.dst v, h := h' }) Qp st.op
  | some (t, want) => match lk s.tm t with
    | .bool b => (b = want → astep P s.h ((t, .bool want) :: s.tm) (fun v h' => K { s with tm := putTm ((t, .bool want) :: s.tm) st.dst v, h := h' }) Qp st.op) ∧ (b = !want → K { s with tm := putTm ((t, .bool (!want)) :: s.tm) st.dst (.tup []) })
    | .tup _ => K { s with tm := putTm s.tm st.dst (.tup []) }
    | _ => False
def run [Glob] (P : Program) (Qp : AV → List AObj → Prop) : List AStp → St → (St → Prop) → Prop
  | [], s, K => K s
  | st :: r, s, K => stp P Qp st s fun s' => run P Qp r s' K

def compS (P : Program) (nt : Nat) (ops : Array Oper) (hint : AStp) (o : Oper) : Option AStp :=
  match compF P hint.op o.op with
  | some op => if o.dst.all (· < nt) then match o.guard with
      | none => some ⟨o.dst, none, op⟩
      | some (j, want) => match (ops[j]?).bind (·.dst) with
        | some t => some ⟨o.dst, some (t, want), op⟩
        | none => none
    else none
  | none => none

theorem lk_known {tm : List (Nat × AV)} {t : Nat} {v : AV} (h : lk tm t = v) : lk ((t, v) :: tm) = lk tm := by
  funext u
  simp only [lk]
  split
  · rename_i e; subst e; exact h.symm
  · rfl
theorem ev_lk {tm tm' : List (Nat × AV)} (h : lk tm = lk tm') : ev tm = ev tm' := by
  funext x; cases x <;> simp [ev, h]

section
variable [Glob] {P : Program}
omit [Glob] in
theorem Oper.wpIn_mono2 {F : Fence} {n : Nat} {o : Oper} {a : Act} {w : World} {K K' : Act → World → Prop} {Q Q' : Exit → Act → World → Prop} (h : ∀ a w, K a w → K' a w) (hq : ∀ e a w, Q e a w → Q' e a w) (hh : o.wpIn F n P a w K Q) : o.wpIn F n P a w K' Q' := by
  unfold Oper.wpIn at *
  refine ⟨hh.1, ?_⟩
  have hh := hh.2
  generalize (o.semAt F.round a.eval).run P w = r at *
  have out : LetsOut Q → LetsOut Q' := fun ⟨a, w, q⟩ => ⟨a, w, hq _ _ _ q⟩
  cases r with
  | ok x w' =>
    cases x <;> simp only [Oper.uponIn] at hh ⊢ <;>
      first
        | exact h _ _ hh
        | exact ⟨hh.1, CallsIn.mono hh.2 (fun e w'' he => by cases e <;> first | exact h _ _ he | exact hq _ _ _ he | exact out he)⟩
        | exact ⟨hh.1, RowsIn.mono hh.2 (fun _ _ he => h _ _ he)⟩
        | exact ⟨hh.1, RoundIn.mono hh.2 (fun e w'' he => by cases e <;> first | exact h _ _ he | exact hq _ _ _ he | exact out he)⟩
        | exact hh
  | halt x w' => cases x <;> simp only [Oper.uponIn] at hh ⊢ <;> first | exact hq _ _ _ hh | exact hh

variable {X : Env} {lo : Option Nat} {w w0 : World} {h0 : List AObj} {b0 : List (Option Nat)} {a : Act} {bs : List (Option Nat)} {s : St} {o : Oper} {Q : AEx → St → Prop}

/-- States as the world sees them. -/
def Sees (X : Env) (lo : Option Nat) (w0 : World) (h0 : List AObj) (b0 : List (Option Nat)) (K : St → Prop) (a : Act) (w : World) : Prop :=
  ∃ s bs, K s ∧ StRel X lo w a bs s ∧ Fr w0 h0 b0 w s.h bs ∧ h0.length ≤ s.base

theorem stp_sound (ro : Option Nat) {ops : Array Oper} {i nt : Nat} {hint st : AStp} {K : St → Prop} (hi : ops[i]? = some o) (hc : compS P nt ops hint o = some st) (hnt : s.nt = nt) (r : StRel X lo w a bs s) (f0 : Fr w0 h0 b0 w s.h bs) (g : h0.length ≤ s.base)
    (k : stp P (fun v h => Q (.pan v) ⟨0, 0, [], h⟩) st s K) : wpOpIn (anyR ro) 0 P ops (lift X lo w0 h0 b0 Q) i (Sees X lo w0 h0 b0 K) a w := by
  unfold compS at hc
  split at hc
  case h_2 => cases hc
  rename_i op hF
  split at hc
  case isFalse => cases hc
  rename_i hdst
  have hd : ∀ k, o.dst = some k → k < s.nt := by
    intro k e; rw [e] at hdst; rw [hnt]; simpa using hdst
  have done : ∀ (s1 : St), StRel X lo w a bs s1 → s1.h = s.h → s1.nt = s.nt → s1.base = s.base → astep P s1.h s1.tm (fun v h' => K { s1 with tm := putTm s1.tm o.dst v, h := h' }) (fun v h => Q (.pan v) ⟨0, 0, [], h⟩) op → o.wpIn (anyR ro) 0 P a w (Sees X lo w0 h0 b0 K) (lift X lo w0 h0 b0 Q) := by
    intro s1 r1 e1 e2 e3 k1
    refine Oper.wpIn_mono2 ?_ ?_ (compF_sound ro (K := fun v h' => K { s1 with tm := putTm s1.tm o.dst v, h := h' }) hF r1 (by rw [e1]; exact f0) (fun k e => by rw [e2]; exact hd k e) k1)
    · rintro a' w' ⟨v, h', bs', hk, hr, hf⟩
      exact ⟨_, bs', hk, hr, hf, by show h0.length ≤ s1.base; rw [e3]; exact g⟩
    · intro e a' w' hp
      cases e with
      | panic ch => exact hp
      | _ => exact hp.elim
  have skip : ∀ (s1 : St), StRel X lo w a bs s1 → s1.h = s.h → s1.nt = s.nt → s1.base = s.base → K { s1 with tm := putTm s1.tm o.dst (.tup []) } → Sees X lo w0 h0 b0 K (a.put o.dst undef) w := by
    intro s1 r1 e1 e2 e3 k1
    exact ⟨_, bs, k1, r1.put (v := .tup []) (x := undef) r1.heap (Fr.refl ..) (.tup [] #[] rfl (by simp)) o.dst (fun k e => by rw [e2]; exact hd k e), by show Fr w0 h0 b0 w s1.h bs; rw [e1]; exact f0, by show h0.length ≤ s1.base; rw [e3]; exact g⟩
  unfold wpOpIn
  rw [hi]
  simp only []
  split at hc
  · rename_i hg
    cases hc
    have hw : Region.wanted o (yielded ops a.tmps) = true := by simp [Region.wanted, hg]
    rw [if_pos hw]
    exact done s r rfl rfl rfl k
  · rename_i j want hg
    split at hc
    case h_2 => cases hc
    rename_i t ht
    cases hc
    simp only [stp] at k
    have hy : yielded ops a.tmps j = match a.tmps[t]? with
        | some (.bool b) => some b
        | _ => none := by
      simp only [yielded, ht, Option.bind_some]
      cases a.tmps[t]? with
      | none => rfl
      | some v => cases v <;> rfl
    have hv := r.tm t
    split at k
    · rename_i b hb
      rw [hb] at hv
      have hvb := hv.bool_inv
      have hat : a.tmps[t]? = some (.bool b) := by
        rw [Array.getD_eq_getD_getElem?] at hvb
        cases he : a.tmps[t]? with
        | none => rw [he] at hvb; simp [undef] at hvb
        | some v => rw [he] at hvb; simp at hvb; rw [hvb]
      rw [hat] at hy
      by_cases hbw : b = want
      · have hw : Region.wanted o (yielded ops a.tmps) = true := by simp [Region.wanted, hg, hy, hbw]
        rw [if_pos hw]
        exact done (s.set t (.bool want)) (r.known t (hbw ▸ hb)) rfl rfl rfl (k.1 hbw)
      · have hw : ¬ Region.wanted o (yielded ops a.tmps) = true := by simp [Region.wanted, hg, hy, hbw]
        rw [if_neg hw]
        have hn : b = !want := by cases b <;> cases want <;> simp at hbw ⊢
        exact ⟨fun _ _ => trivial, skip (s.set t (.bool (!want))) (r.known t (hn ▸ hb)) rfl rfl rfl (k.2 hn)⟩
    · rename_i l hb
      rw [hb] at hv
      have hw : ¬ Region.wanted o (yielded ops a.tmps) = true := by
        have : yielded ops a.tmps j = none := by
          rw [hy]
          rw [Array.getD_eq_getD_getElem?] at hv
          cases he : a.tmps[t]? with
          | none => rfl
          | some v =>
            rw [he] at hv
            simp only [Option.getD_some] at hv
            cases hv; rfl
        simp [Region.wanted, hg, this]
      rw [if_neg hw]
      exact ⟨fun _ _ => trivial, skip s r rfl rfl rfl k⟩
    · exact k.elim
end

section
variable [Glob] {P : Program}
/-- A region's steps, as they are compiled. -/
def compR (P : Program) (nt : Nat) (ops : Array Oper) : List Oper → List AStp → Option (List AStp)
  | [], _ => some []
  | o :: r, hs => match compS P nt ops (hs.headD default) o, compR P nt ops r hs.tail with
    | some x, some l => some (x :: l)
    | _, _ => none
omit [Glob] in
theorem compR_spec {nt : Nat} {ops : Array Oper} : ∀ {l : List Oper} {hs sts : List AStp}, compR P nt ops l hs = some sts → sts.length = l.length ∧ ∀ (j : Nat) (o : Oper), l[j]? = some o → ∃ hint st, sts[j]? = some st ∧ compS P nt ops hint o = some st
  | [], hs, sts, h => by simp only [compR, Option.some.injEq] at h; subst h; simp
  | o :: r, hs, sts, h => by
    simp only [compR] at h
    split at h
    · rename_i x l h1 h2
      cases h
      obtain ⟨a, b⟩ := compR_spec h2
      refine ⟨by simp [a], fun j o' e => ?_⟩
      cases j with
      | zero => simp at e; subst e; exact ⟨_, x, by simp, h1⟩
      | succ j => simp at e; simpa using b j o' e
    · cases h

variable {X : Env} {lo : Option Nat} {w w0 : World} {h0 : List AObj} {b0 : List (Option Nat)} {a : Act} {bs : List (Option Nat)} {s : St} {Q : AEx → St → Prop}

omit [Glob] in
theorem putTm_nt : True := trivial

/-- Steps in their order. -/
theorem run_sound (ro : Option Nat) {ops : Array Oper} {nt : Nat} : ∀ (n k : Nat) (sts : List AStp) (a : Act) (w : World) (s : St) (bs : List (Option Nat)) (K : St → Prop), k + n = ops.size → sts.length = n → (∀ (j : Nat) (o : Oper), ops[k + j]? = some o → j < n → ∃ hint st, sts[j]? = some st ∧ compS P nt ops hint o = some st) →
    s.nt = nt → StRel X lo w a bs s → Fr w0 h0 b0 w s.h bs → h0.length ≤ s.base → run P (fun v h => Q (.pan v) ⟨0, 0, [], h⟩) sts s K →
    (∀ s w a bs, s.nt = nt → K s → StRel X lo w a bs s → Fr w0 h0 b0 w s.h bs → h0.length ≤ s.base → lift X lo w0 h0 b0 Q .normal a w) → wpOpsIn (anyR ro) 0 P ops (lift X lo w0 h0 b0 Q) (List.range' k n) a w
  | 0, k, sts, a, w, s, bs, K, hk, hl, hc, hnt, r, f, g, kr, hK => by
    have : sts = [] := List.length_eq_zero_iff.1 hl
    subst this
    simp only [run] at kr
    exact hK s w a bs hnt kr r f g
  | n + 1, k, [], a, w, s, bs, K, hk, hl, hc, hnt, r, f, g, kr, hK => by simp at hl
  | n + 1, k, st :: sts, a, w, s, bs, K, hk, hl, hc, hnt, r, f, g, kr, hK => by
    have hlt : k < ops.size := by omega
    obtain ⟨hint, st', e1, e2⟩ := hc 0 ops[k] (Array.getElem?_eq_getElem hlt) (by omega)
    simp at e1; subst e1
    rw [List.range'_succ, wpOpsIn_cons]
    simp only [run] at kr
    refine wpOpIn_mono ?_ (stp_sound ro (K := fun s' => s'.nt = nt ∧ run P (fun v h => Q (.pan v) ⟨0, 0, [], h⟩) sts s' K) (Array.getElem?_eq_getElem hlt) e2 hnt r f g ?_)
    · rintro a' w' ⟨s', bs', ⟨n', k'⟩, r', f', g'⟩
      exact run_sound ro n (k + 1) sts a' w' s' bs' K (by omega) (by simpa using hl) (fun j o e hj => by
        obtain ⟨h1, s1, e3, e4⟩ := hc (j + 1) o (by rw [show k + (j + 1) = k + 1 + j by omega]; exact e) (by omega)
        exact ⟨h1, s1, by simpa using e3, e4⟩) n' r' f' g' k' hK
    · unfold stp at kr ⊢
      split at kr
      · exact astep_mono kr fun v h k => ⟨hnt, k⟩
      · split at kr
        · exact ⟨fun e => astep_mono (kr.1 e) fun v h k => ⟨hnt, k⟩, fun e => ⟨hnt, kr.2 e⟩⟩
        · exact ⟨hnt, kr⟩
        · exact kr.elim
end

end Go.Pe
