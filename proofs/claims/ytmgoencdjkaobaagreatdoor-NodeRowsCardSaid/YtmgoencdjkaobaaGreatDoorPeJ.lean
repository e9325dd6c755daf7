/- How compact code is worked out by rewriting: equations by which the walk of a function is a formula; what is to be done next is kept as data, so that nothing is looked into before its time. No program in sight; no conditions. -/
import Derived.Test.YtmgoencdjkaobaaGreatDoorPeI
set_option linter.unusedVariables false
set_option linter.unusedSimpArgs false
namespace Go.Pe

/-- What is left of a region: where the value goes, the steps behind, what is wanted of them, the state. -/
structure Rest where
  P : Program
  Q : AEx → St → Prop
  d : Option Nat
  l : List AStp
  outs : List Nat
  nt : Nat
  b : Nat
  tm : List (Nat × AV)
variable [Glob]
/-- A region from here. -/
def reg (P : Program) (Q : AEx → St → Prop) (l : List AStp) (outs : List Nat) (s : St) : Prop := run P (panQ Q) l s fun s' => Q .norm (proj outs s')
/-- Behind a step that yields v. -/
def go (R : Rest) (h : List AObj) (v : AV) : Prop := reg R.P R.Q R.l R.outs ⟨R.nt, R.b, putTm R.tm R.d v, h⟩
def thenA (P : Program) (c : AC) (Q : AEx → St → Prop) : AEx → St → Prop := thenQ (Aw P c Q) Q
/-- A step, unless it is guarded. -/
def step1 (R : Rest) (h : List AObj) (op : AOp) : Prop := astep R.P h R.tm (fun v h' => go R h' v) (panQ R.Q) op
def guardV (R : Rest) (h : List AObj) (op : AOp) (t : Nat) (want : Bool) : AV → Prop
  | .bool c => (c = want → step1 { R with tm := (t, .bool want) :: R.tm } h op) ∧ (c = !want → go { R with tm := (t, .bool (!want)) :: R.tm } h (.tup []))
  | .tup _ => go R h (.tup [])
  | _ => False
section
variable {P : Program} {Q : AEx → St → Prop} {h : List AObj} {tm : List (Nat × AV)} {R : Rest} {K : AV → Prop}
omit [Glob] in
@[simp] theorem lk_nil (t : Nat) : lk [] t = .any := rfl
omit [Glob] in
@[simp] theorem lk_hit (t : Nat) (v : AV) (r : List (Nat × AV)) : lk ((t, v) :: r) t = v := by simp [lk]
omit [Glob] in
@[simp] theorem lk_miss (t u : Nat) (v : AV) (r : List (Nat × AV)) (h : ¬ t = u) : lk ((t, v) :: r) u = lk r u := by simp [lk, h]
omit [Glob] in
@[simp] theorem ev_t (t : Nat) : ev tm (.t t) = lk tm t := rfl
omit [Glob] in
@[simp] theorem ev_c (v : AV) : ev tm (.c v) = v := rfl

@[simp] theorem reg_nil (outs : List Nat) (nt b : Nat) : reg P Q [] outs ⟨nt, b, tm, h⟩ = Q .norm ⟨nt, b, outs.map fun t => (t, lk tm t), h⟩ := rfl
@[simp] theorem reg_n (d : Option Nat) (op : AOp) (l : List AStp) (outs : List Nat) (nt b : Nat) : reg P Q (⟨d, none, op⟩ :: l) outs ⟨nt, b, tm, h⟩ = step1 ⟨P, Q, d, l, outs, nt, b, tm⟩ h op := rfl
@[simp] theorem reg_g (d : Option Nat) (t : Nat) (want : Bool) (op : AOp) (l : List AStp) (outs : List Nat) (nt b : Nat) : reg P Q (⟨d, some (t, want), op⟩ :: l) outs ⟨nt, b, tm, h⟩ = guardV ⟨P, Q, d, l, outs, nt, b, tm⟩ h op t want (lk tm t) := by
  simp only [reg, run, stp, guardV, step1, go]
  cases lk tm t <;> rfl
@[simp] theorem go_s (d : Nat) (l : List AStp) (outs : List Nat) (nt b : Nat) (v : AV) : go ⟨P, Q, some d, l, outs, nt, b, tm⟩ h v = reg P Q l outs ⟨nt, b, (d, v) :: tm, h⟩ := rfl
@[simp] theorem go_n (l : List AStp) (outs : List Nat) (nt b : Nat) (v : AV) : go ⟨P, Q, none, l, outs, nt, b, tm⟩ h v = reg P Q l outs ⟨nt, b, tm, h⟩ := rfl
@[simp high] theorem guard_tt (op : AOp) (t : Nat) : guardV R h op t true (.bool true) = step1 ⟨R.P, R.Q, R.d, R.l, R.outs, R.nt, R.b, (t, .bool true) :: R.tm⟩ h op := by simp [guardV]
@[simp high] theorem guard_ff (op : AOp) (t : Nat) : guardV R h op t false (.bool false) = step1 ⟨R.P, R.Q, R.d, R.l, R.outs, R.nt, R.b, (t, .bool false) :: R.tm⟩ h op := by simp [guardV]
@[simp high] theorem guard_tf (op : AOp) (t : Nat) : guardV R h op t true (.bool false) = go ⟨R.P, R.Q, R.d, R.l, R.outs, R.nt, R.b, (t, .bool false) :: R.tm⟩ h (.tup []) := by simp [guardV]
@[simp high] theorem guard_ft (op : AOp) (t : Nat) : guardV R h op t false (.bool true) = go ⟨R.P, R.Q, R.d, R.l, R.outs, R.nt, R.b, (t, .bool true) :: R.tm⟩ h (.tup []) := by simp [guardV]
@[simp low] theorem guard_t (op : AOp) (t : Nat) (c : Bool) : guardV R h op t true (.bool c) = ((c = true → step1 ⟨R.P, R.Q, R.d, R.l, R.outs, R.nt, R.b, (t, .bool true) :: R.tm⟩ h op) ∧ (c = false → go ⟨R.P, R.Q, R.d, R.l, R.outs, R.nt, R.b, (t, .bool false) :: R.tm⟩ h (.tup []))) := rfl
@[simp low] theorem guard_f (op : AOp) (t : Nat) (c : Bool) : guardV R h op t false (.bool c) = ((c = false → step1 ⟨R.P, R.Q, R.d, R.l, R.outs, R.nt, R.b, (t, .bool false) :: R.tm⟩ h op) ∧ (c = true → go ⟨R.P, R.Q, R.d, R.l, R.outs, R.nt, R.b, (t, .bool true) :: R.tm⟩ h (.tup []))) := rfl
@[simp] theorem guard_u (op : AOp) (t : Nat) (want : Bool) (l : List AV) : guardV R h op t want (.tup l) = go R h (.tup []) := rfl

@[simp] theorem thenA_norm (c : AC) (s : St) : thenA P c Q .norm s = Aw P c Q s := rfl
@[simp] theorem thenA_exit (c : AC) (s : St) (i : Nat) : thenA P c Q (.exit i) s = Q (.exit i) s := rfl
@[simp] theorem thenA_ret (c : AC) (s : St) : thenA P c Q .ret s = Q .ret s := rfl
@[simp] theorem thenA_pan (c : AC) (s : St) (v : AV) : thenA P c Q (.pan v) s = Q (.pan v) s := rfl
omit [Glob] in
@[simp] theorem thenQ_norm (K : St → Prop) (s : St) : thenQ K Q .norm s = K s := rfl
omit [Glob] in
@[simp] theorem thenQ_exit (K : St → Prop) (s : St) (i : Nat) : thenQ K Q (.exit i) s = Q (.exit i) s := rfl
omit [Glob] in
@[simp] theorem thenQ_ret (K : St → Prop) (s : St) : thenQ K Q .ret s = Q .ret s := rfl
omit [Glob] in
@[simp] theorem thenQ_pan (K : St → Prop) (s : St) (v : AV) : thenQ K Q (.pan v) s = Q (.pan v) s := rfl
omit [Glob] in
@[simp] theorem blockQ_norm (id : Nat) (s : St) : blockQ id Q .norm s = Q .norm s := rfl
omit [Glob] in
@[simp] theorem blockQ_exit (id i : Nat) (s : St) : blockQ id Q (.exit i) s = if i = id then Q .norm s else Q (.exit i) s := rfl
omit [Glob] in
@[simp] theorem blockQ_ret (id : Nat) (s : St) : blockQ id Q .ret s = Q .ret s := rfl
omit [Glob] in
@[simp] theorem blockQ_pan (id : Nat) (s : St) (v : AV) : blockQ id Q (.pan v) s = Q (.pan v) s := rfl
omit [Glob] in
@[simp] theorem panQ_eq (v : AV) : panQ Q v h = Q (.pan v) ⟨0, 0, [], h⟩ := rfl
omit [Glob] in
@[simp] theorem proj_eq (outs : List Nat) (nt b : Nat) : proj outs ⟨nt, b, tm, h⟩ = ⟨nt, b, outs.map fun t => (t, lk tm t), h⟩ := rfl

def condV (P : Program) (Q : AEx → St → Prop) (l1 : List Nat) (x : AC) (l2 : List Nat) (y : AC) (nt b : Nat) (tm : List (Nat × AV)) (h : List AObj) : AV → Prop
  | .bool v => (v = true → Aw P x Q ⟨nt, b, l1.map fun t => (t, lk tm t), h⟩) ∧ (v = false → Aw P y Q ⟨nt, b, l2.map fun t => (t, lk tm t), h⟩)
  | _ => False
@[simp high] theorem cond_t (l1 l2 : List Nat) (x y : AC) (nt b : Nat) : condV P Q l1 x l2 y nt b tm h (.bool true) = Aw P x Q ⟨nt, b, l1.map fun t => (t, lk tm t), h⟩ := by simp [condV]
@[simp high] theorem cond_f (l1 l2 : List Nat) (x y : AC) (nt b : Nat) : condV P Q l1 x l2 y nt b tm h (.bool false) = Aw P y Q ⟨nt, b, l2.map fun t => (t, lk tm t), h⟩ := by simp [condV]
@[simp low] theorem cond_b (l1 l2 : List Nat) (x y : AC) (nt b : Nat) (v : Bool) : condV P Q l1 x l2 y nt b tm h (.bool v) = ((v = true → Aw P x Q ⟨nt, b, l1.map fun t => (t, lk tm t), h⟩) ∧ (v = false → Aw P y Q ⟨nt, b, l2.map fun t => (t, lk tm t), h⟩)) := rfl
@[simp] theorem Aw_skip (s : St) : Aw P .skip Q s = Q .norm s := rfl
@[simp] theorem Aw_seq (a b : AC) (s : St) : Aw P (.seq a b) Q s = Aw P a (thenA P b Q) s := rfl
@[simp] theorem Aw_reg (l : List AStp) (outs : List Nat) (s : St) : Aw P (.reg l outs) Q s = reg P Q l outs s := rfl
@[simp] theorem Aw_regp (perm : List Nat) (l : List AStp) (outs : List Nat) (s : St) : Aw P (.regp perm l outs) Q s = reg P Q l outs s := rfl
@[simp] theorem Aw_cond (c : Opd) (l1 l2 : List Nat) (a b : AC) (nt bs : Nat) : Aw P (.cond c l1 a l2 b) Q ⟨nt, bs, tm, h⟩ = condV P Q l1 a l2 b nt bs tm h (ev tm c) := by
  simp only [Aw, condV]
  cases ev tm c <;> rfl
@[simp] theorem Aw_block (id : Nat) (a : AC) (s : St) : Aw P (.block id a) Q s = Aw P a (blockQ id Q) s := rfl
@[simp] theorem Aw_exit (id : Nat) (outs : List Nat) (s : St) : Aw P (.exit id outs) Q s = Q (.exit id) (proj outs s) := rfl
@[simp] theorem Aw_ret (outs : List Nat) (s : St) : Aw P (.ret outs) Q s = Q .ret (proj outs s) := rfl
@[simp] theorem Aw_scope (a : AC) (s : St) : Aw P (.scope a) Q s = Aw P a Q s := rfl
@[simp] theorem Aw_rng (outs : List Nat) (g : Opd) (ps : List Nat) (a b : AC) (nt bs : Nat) : Aw P (.rng outs g ps a b) Q ⟨nt, bs, tm, h⟩ = rngA P ps.length (fun args h R => Aw P a (rngE h.length (Aw P b (endY h.length R))) ⟨nt, h.length, bindT ps args (outs.map fun t => (t, lk tm t)), h⟩) (rngK Q nt bs (outs.map fun t => (t, lk tm t))) h (ev (outs.map fun t => (t, lk tm t)) g) := rfl
omit [Glob] in
@[simp] theorem endY_norm (n : Nat) (R : Out → List AObj → Prop) (s : St) : endY n R .norm s = R (.ret (.bool true)) s.h := rfl
omit [Glob] in
@[simp] theorem endY_pan (n : Nat) (R : Out → List AObj → Prop) (v : AV) (s : St) : endY n R (.pan v) s = R (.pan v) s.h := rfl
omit [Glob] in
@[simp] theorem bindT_cons (p : Nat) (ps : List Nat) (v : AV) (vs : List AV) (tm : List (Nat × AV)) : bindT (p :: ps) (v :: vs) tm = bindT ps vs ((p, v) :: tm) := rfl
omit [Glob] in
@[simp] theorem bindT_nil (vs : List AV) (tm : List (Nat × AV)) : bindT [] vs tm = tm := by cases vs <;> rfl
omit [Glob] in
@[simp] theorem rngE_norm (n : Nat) (B : St → Prop) (s : St) : rngE n B .norm s = ((s.h.length ≤ s.base ∧ n ≤ s.base) ∧ B s) := by simp [rngE]
@[simp] theorem Aw_label (l : Nat) (s : St) : Aw P (.label l) Q s = Q .norm s := rfl

/-! Values. -/
def val (R : Rest) (h : List AObj) (x : AExp) : Prop := aval h R.tm x (go R h)
@[simp] theorem st_e (x : AExp) : step1 R h (.e x) = val R h x := rfl
@[simp] theorem va_mov (x : Opd) : val R h (.mov x) = go R h (ev R.tm x) := rfl
def pickV (x y : AV) (K : AV → Prop) : AV → Prop
  | .bool b => (b = true → K x) ∧ (b = false → K y)
  | _ => False
omit [Glob] in
@[simp high] theorem pick_t (x y : AV) : pickV x y K (.bool true) = K x := by simp [pickV]
omit [Glob] in
@[simp high] theorem pick_f (x y : AV) : pickV x y K (.bool false) = K y := by simp [pickV]
omit [Glob] in
@[simp low] theorem pick_b (x y : AV) (b : Bool) : pickV x y K (.bool b) = ((b = true → K x) ∧ (b = false → K y)) := rfl
@[simp] theorem va_pick (c x y : Opd) : val R h (.pick c x y) = pickV (ev R.tm x) (ev R.tm y) (go R h) (ev R.tm c) := by
  simp only [val, aval, pickV]; cases ev R.tm c <;> rfl
def binV (op : BinOp) (K : AV → Prop) (x y : AV) : Prop :=
  match x, y with
  | .int k a, .int k' b => k = k' ∧ binI op k a b K
  | .str a, .str b => binS op a b K
  | _, _ => False
omit [Glob] in
@[simp] theorem bin_i (op : BinOp) (k k' : IntKind) (a b : Int) : binV op K (.int k a) (.int k' b) = (k = k' ∧ binI op k a b K) := rfl
omit [Glob] in
@[simp] theorem bin_s (op : BinOp) (a b : List UInt8) : binV op K (.str a) (.str b) = binS op a b K := rfl
@[simp] theorem va_bin (op : BinOp) (x y : Opd) : val R h (.bin op x y) = binV op (go R h) (ev R.tm x) (ev R.tm y) := by
  simp only [val, aval, binV]
  cases ev R.tm x <;> cases ev R.tm y <;> rfl
def binBV (K : AV → Prop) (op : BinOp) (x y : AV) : Prop :=
  match op, x, y with
  | .eql, .bool a, .bool b => K (.bool (a == b))
  | .neq, .bool a, .bool b => K (.bool (a != b))
  | _, _, _ => False
omit [Glob] in
@[simp] theorem binB_e (a b : Bool) : binBV K .eql (.bool a) (.bool b) = K (.bool (a == b)) := rfl
omit [Glob] in
@[simp] theorem binB_n (a b : Bool) : binBV K .neq (.bool a) (.bool b) = K (.bool (a != b)) := rfl
@[simp] theorem va_binB (op : BinOp) (x y : Opd) : val R h (.binB op x y) = binBV (go R h) op (ev R.tm x) (ev R.tm y) := rfl
def unV (K : AV → Prop) (op : UnOp) (x : AV) : Prop :=
  match op, x with
  | .not, .bool b => K (.bool (!b))
  | .neg, .int k n => K (.int k (k.wrap (0 - n)))
  | _, _ => False
omit [Glob] in
@[simp] theorem un_b (b : Bool) : unV K .not (.bool b) = K (.bool (!b)) := rfl
omit [Glob] in
@[simp] theorem un_i (k : IntKind) (n : Int) : unV K .neg (.int k n) = K (.int k (k.wrap (0 - n))) := rfl
@[simp] theorem va_un (op : UnOp) (x : Opd) : val R h (.un op x) = unV (go R h) op (ev R.tm x) := rfl
def cintV (K : AV → Prop) (k : IntKind) : AV → Prop
  | .int _ n => K (.int k (k.wrap n))
  | _ => False
omit [Glob] in
@[simp] theorem cint_i (k k' : IntKind) (n : Int) : cintV K k (.int k' n) = K (.int k (k.wrap n)) := rfl
@[simp] theorem va_cint (k : IntKind) (x : Opd) : val R h (.cint k x) = cintV (go R h) k (ev R.tm x) := by
  simp only [val, aval, cintV]; cases ev R.tm x <;> rfl
def cstrV (K : AV → Prop) : AV → Prop
  | .str s => K (.str s)
  | _ => False
omit [Glob] in
@[simp] theorem cstr_s (s : List UInt8) : cstrV K (.str s) = K (.str s) := rfl
@[simp] theorem va_cstr (x : Opd) : val R h (.cstr x) = cstrV (go R h) (ev R.tm x) := by
  simp only [val, aval, cstrV]; cases ev R.tm x <;> rfl
def loadX (K : AV → Prop) (ag : Bool) (n k : Nat) : Option AV → Prop
  | some y => K (mkv ag ((y.cells.drop k).take n))
  | none => False
def loadO (K : AV → Prop) (ag : Bool) (n ver i k : Nat) : Option AObj → Prop
  | some ob => (ob.ver = ver ∧ k + n ≤ ob.sz) ∧ loadX K ag n k ob.xs[i]?
  | none => False
def loadV (K : AV → Prop) (h : List AObj) (ag : Bool) (n : Nat) : AV → Prop
  | .ptr o ver i k => loadO K ag n ver i k h[o]?
  | .rp xs => n ≤ xs.length ∧ K (mkv ag (xs.take n))
  | _ => False
omit [Glob] in
@[simp] theorem loadX_s (ag : Bool) (n k : Nat) (y : AV) : loadX K ag n k (some y) = K (mkv ag ((y.cells.drop k).take n)) := rfl
omit [Glob] in
@[simp] theorem loadO_s (ag : Bool) (n ver i k : Nat) (ob : AObj) : loadO K ag n ver i k (some ob) = ((ob.ver = ver ∧ k + n ≤ ob.sz) ∧ loadX K ag n k ob.xs[i]?) := rfl
omit [Glob] in
@[simp] theorem load_p (ag : Bool) (n o ver i k : Nat) : loadV K h ag n (.ptr o ver i k) = loadO K ag n ver i k h[o]? := rfl
omit [Glob] in
@[simp] theorem load_r (ag : Bool) (n : Nat) (xs : List AV) : loadV K h ag n (.rp xs) = (n ≤ xs.length ∧ K (mkv ag (xs.take n))) := rfl
@[simp] theorem va_load (ag : Bool) (n : Nat) (x : Opd) : val R h (.load ag n x) = loadV (go R h) h ag n (ev R.tm x) := by
  simp only [val, aval, loadV, loadO, loadX]; cases ev R.tm x <;> rfl
omit [Glob] in
@[simp] theorem aval_load (ag : Bool) (n : Nat) (x : Opd) : aval h tm (.load ag n x) K = loadV K h ag n (ev tm x) := by
  simp only [aval, loadV, loadO, loadX]; cases ev tm x <;> rfl
def fadO (K : AV → Prop) (o ver i k off : Nat) : Option AObj → Prop
  | some ob => ob.ver = ver ∧ K (.ptr o ver i (k + off))
  | none => False
def fadV (K : AV → Prop) (h : List AObj) (off : Nat) : AV → Prop
  | .ptr o ver i k => fadO K o ver i k off h[o]?
  | .rp xs => K (.rp (xs.drop off))
  | _ => False
omit [Glob] in
@[simp] theorem fadO_s (o ver i k off : Nat) (ob : AObj) : fadO K o ver i k off (some ob) = (ob.ver = ver ∧ K (.ptr o ver i (k + off))) := rfl
omit [Glob] in
@[simp] theorem fad_p (off o ver i k : Nat) : fadV K h off (.ptr o ver i k) = fadO K o ver i k off h[o]? := rfl
omit [Glob] in
@[simp] theorem fad_r (off : Nat) (xs : List AV) : fadV K h off (.rp xs) = K (.rp (xs.drop off)) := rfl
@[simp] theorem va_fad (off : Nat) (x : Opd) : val R h (.fad off x) = fadV (go R h) h off (ev R.tm x) := by
  simp only [val, aval, fadV, fadO]; cases ev R.tm x <;> rfl
def iadX (K : AV → Prop) : Option AV → Prop
  | some x => K (.rp x.cells)
  | none => False
def iadO (K : AV → Prop) (sz o ver off len : Nat) (n : Int) : Option AObj → Prop
  | some ob => (ob.ver = ver ∧ ob.sz = sz ∧ 0 ≤ n ∧ n < len) ∧ K (.ptr o ver (off + n.toNat) 0)
  | none => False
def iadV (K : AV → Prop) (h : List AObj) (sz : Nat) (x i : AV) : Prop :=
  match x, i with
  | .sl sz' xs, .int _ n => (sz' = sz ∧ 0 ≤ n ∧ n < xs.length) ∧ iadX K xs[n.toNat]?
  | .osl o ver off len, .int _ n => iadO K sz o ver off len n h[o]?
  | _, _ => False
omit [Glob] in
@[simp] theorem iadX_s (x : AV) : iadX K (some x) = K (.rp x.cells) := rfl
omit [Glob] in
@[simp] theorem iadO_s (sz o ver off len : Nat) (n : Int) (ob : AObj) : iadO K sz o ver off len n (some ob) = ((ob.ver = ver ∧ ob.sz = sz ∧ 0 ≤ n ∧ n < len) ∧ K (.ptr o ver (off + n.toNat) 0)) := rfl
omit [Glob] in
@[simp] theorem iad_s (sz sz' : Nat) (xs : List AV) (k : IntKind) (n : Int) : iadV K h sz (.sl sz' xs) (.int k n) = ((sz' = sz ∧ 0 ≤ n ∧ n < xs.length) ∧ iadX K xs[n.toNat]?) := rfl
omit [Glob] in
@[simp] theorem iad_o (sz o ver off len : Nat) (k : IntKind) (n : Int) : iadV K h sz (.osl o ver off len) (.int k n) = iadO K sz o ver off len n h[o]? := rfl
@[simp] theorem va_iad (sz : Nat) (x i : Opd) : val R h (.iad sz x i) = iadV (go R h) h sz (ev R.tm x) (ev R.tm i) := by
  simp only [val, aval, iadV, iadO]
  cases ev R.tm x <;> try rfl
  · rename_i sz' xs
    cases ev R.tm i <;> try rfl
    rename_i k n
    apply propext
    refine and_congr_right fun hc => ?_
    have : n.toNat < xs.length := by omega
    simp [iadX, this]
  · cases ev R.tm i <;> rfl
def idxV (K : AV → Prop) (x i : AV) : Prop :=
  match x, i with
  | .str s, .int _ n => (0 ≤ n ∧ n < s.length) ∧ K (.int .u8 (s.getD n.toNat 0).toNat)
  | _, _ => False
omit [Glob] in
@[simp] theorem idx_s (s : List UInt8) (k : IntKind) (n : Int) : idxV K (.str s) (.int k n) = ((0 ≤ n ∧ n < s.length) ∧ K (.int .u8 (s.getD n.toNat 0).toNat)) := rfl
@[simp] theorem va_idx (x i : Opd) : val R h (.idx x i) = idxV (go R h) (ev R.tm x) (ev R.tm i) := rfl
def fldV (K : AV → Prop) (ag : Bool) (off n : Nat) : AV → Prop
  | .agg l => off + n ≤ l.length ∧ K (mkv ag ((l.drop off).take n))
  | _ => False
omit [Glob] in
@[simp] theorem fld_a (ag : Bool) (off n : Nat) (l : List AV) : fldV K ag off n (.agg l) = (off + n ≤ l.length ∧ K (mkv ag ((l.drop off).take n))) := rfl
@[simp] theorem va_fld (ag : Bool) (off n : Nat) (x : Opd) : val R h (.fld ag off n x) = fldV (go R h) ag off n (ev R.tm x) := by
  simp only [val, aval, fldV]; cases ev R.tm x <;> rfl
/-- A bound of a slice. -/
def bnd (d : Int) : Option AV → Option Int
  | none => some d
  | some (.int _ n) => some n
  | _ => none
omit [Glob] in
@[simp] theorem bnd_n (d : Int) : bnd d none = some d := rfl
omit [Glob] in
@[simp] theorem bnd_i (d : Int) (k : IntKind) (n : Int) : bnd d (some (.int k n)) = some n := rfl
omit [Glob] in
theorem bound_bnd {d : Int} {x : Option Opd} {K : Int → Prop} : bound tm d x K = match bnd d (x.map (ev tm)) with
    | some n => K n
    | none => False := by
  cases x with
  | none => rfl
  | some x => simp only [bound, Option.map_some, bnd]; cases ev tm x <;> rfl
def slSX (K : AV → Prop) (s : List UInt8) (lo hi : Option Int) : Prop :=
  match lo, hi with
  | some l, some r => (0 ≤ l ∧ l ≤ r ∧ r ≤ s.length) ∧ K (.str ((s.take r.toNat).drop l.toNat))
  | _, _ => False
def slSV (K : AV → Prop) (lo hi : Option AV) : AV → Prop
  | .str s => slSX K s (bnd 0 lo) (bnd s.length hi)
  | _ => False
omit [Glob] in
@[simp] theorem slSX_s (s : List UInt8) (l r : Int) : slSX K s (some l) (some r) = ((0 ≤ l ∧ l ≤ r ∧ r ≤ s.length) ∧ K (.str ((s.take r.toNat).drop l.toNat))) := rfl
omit [Glob] in
@[simp] theorem slS_s (lo hi : Option AV) (s : List UInt8) : slSV K lo hi (.str s) = slSX K s (bnd 0 lo) (bnd s.length hi) := rfl
@[simp] theorem va_slS (x : Opd) (lo hi : Option Opd) : val R h (.slS x lo hi) = slSV (go R h) (lo.map (ev R.tm)) (hi.map (ev R.tm)) (ev R.tm x) := by
  simp only [val, aval, slSV]
  cases ev R.tm x <;> try rfl
  simp only [bound_bnd, slSX]
  rename_i s
  generalize bnd 0 (lo.map (ev R.tm)) = u
  generalize bnd s.length (hi.map (ev R.tm)) = v
  cases u <;> cases v <;> rfl
def slLX (K : AV → Prop) (sz sz' : Nat) (xs : List AV) (lo hi : Option Int) : Prop :=
  match lo, hi with
  | some l, some r => (sz' = sz ∧ 0 ≤ l ∧ l ≤ r ∧ r ≤ xs.length) ∧ K (.sl sz ((xs.take r.toNat).drop l.toNat))
  | _, _ => False
def slNX (K : AV → Prop) (lo hi : Option Int) : Prop :=
  match lo, hi with
  | some l, some r => (l = 0 ∧ r = 0) ∧ K .nils
  | _, _ => False
def slOX (K : AV → Prop) (sz o ver off len : Nat) (ob : AObj) (lo hi : Option Int) : Prop :=
  match lo, hi with
  | some l, some r => (ob.ver = ver ∧ ob.sz = sz ∧ 0 ≤ l ∧ l ≤ r ∧ r ≤ len) ∧ K (.osl o ver (off + l.toNat) (r - l).toNat)
  | _, _ => False
def slLO (K : AV → Prop) (sz o ver off len : Nat) (lo hi : Option AV) : Option AObj → Prop
  | some ob => slOX K sz o ver off len ob (bnd 0 lo) (bnd len hi)
  | none => False
def slLV (K : AV → Prop) (h : List AObj) (sz : Nat) (lo hi : Option AV) : AV → Prop
  | .sl sz' xs => slLX K sz sz' xs (bnd 0 lo) (bnd xs.length hi)
  | .nils => slNX K (bnd 0 lo) (bnd 0 hi)
  | .osl o ver off len => slLO K sz o ver off len lo hi h[o]?
  | _ => False
omit [Glob] in
@[simp] theorem slLX_s (sz sz' : Nat) (xs : List AV) (l r : Int) : slLX K sz sz' xs (some l) (some r) = ((sz' = sz ∧ 0 ≤ l ∧ l ≤ r ∧ r ≤ xs.length) ∧ K (.sl sz ((xs.take r.toNat).drop l.toNat))) := rfl
omit [Glob] in
@[simp] theorem slNX_s (l r : Int) : slNX K (some l) (some r) = ((l = 0 ∧ r = 0) ∧ K .nils) := rfl
omit [Glob] in
@[simp] theorem slOX_s (sz o ver off len : Nat) (ob : AObj) (l r : Int) : slOX K sz o ver off len ob (some l) (some r) = ((ob.ver = ver ∧ ob.sz = sz ∧ 0 ≤ l ∧ l ≤ r ∧ r ≤ len) ∧ K (.osl o ver (off + l.toNat) (r - l).toNat)) := rfl
omit [Glob] in
@[simp] theorem slLO_s (sz o ver off len : Nat) (lo hi : Option AV) (ob : AObj) : slLO K sz o ver off len lo hi (some ob) = slOX K sz o ver off len ob (bnd 0 lo) (bnd len hi) := rfl
omit [Glob] in
@[simp] theorem slL_s (sz sz' : Nat) (lo hi : Option AV) (xs : List AV) : slLV K h sz lo hi (.sl sz' xs) = slLX K sz sz' xs (bnd 0 lo) (bnd xs.length hi) := rfl
omit [Glob] in
@[simp] theorem slL_n (sz : Nat) (lo hi : Option AV) : slLV K h sz lo hi .nils = slNX K (bnd 0 lo) (bnd 0 hi) := rfl
omit [Glob] in
@[simp] theorem slL_o (sz o ver off len : Nat) (lo hi : Option AV) : slLV K h sz lo hi (.osl o ver off len) = slLO K sz o ver off len lo hi h[o]? := rfl
@[simp] theorem va_slL (sz : Nat) (x : Opd) (lo hi : Option Opd) : val R h (.slL sz x lo hi) = slLV (go R h) h sz (lo.map (ev R.tm)) (hi.map (ev R.tm)) (ev R.tm x) := by
  simp only [val, aval, slLV]
  cases ev R.tm x <;> try rfl
  · simp only [bound_bnd, slNX]
    generalize bnd 0 (lo.map (ev R.tm)) = u
    generalize bnd 0 (hi.map (ev R.tm)) = v
    cases u <;> cases v <;> rfl
  · rename_i sz' xs
    simp only [bound_bnd, slLX]
    generalize bnd 0 (lo.map (ev R.tm)) = u
    generalize bnd xs.length (hi.map (ev R.tm)) = v
    cases u <;> cases v <;> rfl
  · rename_i o ver off len
    simp only [slLO]
    cases h[o]? with
    | none => rfl
    | some ob =>
      simp only [bound_bnd, slOX]
      generalize bnd 0 (lo.map (ev R.tm)) = u
      generalize bnd len (hi.map (ev R.tm)) = v
      cases u <;> cases v <;> rfl
def extX (K : AV → Prop) : Option AV → Prop
  | some v => K v
  | none => False
def extV (K : AV → Prop) (i : Nat) : AV → Prop
  | .tup l => extX K l[i]?
  | _ => False
omit [Glob] in
@[simp] theorem extX_s (v : AV) : extX K (some v) = K v := rfl
omit [Glob] in
@[simp] theorem ext_t (i : Nat) (l : List AV) : extV K i (.tup l) = extX K l[i]? := rfl
@[simp] theorem va_ext (x : Opd) (i : Nat) : val R h (.ext x i) = extV (go R h) i (ev R.tm x) := by
  simp only [val, aval, extV, extX]; cases ev R.tm x <;> rfl
def lenSV (K : AV → Prop) : AV → Prop
  | .str s => K (.int .i64 s.length)
  | _ => False
omit [Glob] in
@[simp] theorem lenS_s (s : List UInt8) : lenSV K (.str s) = K (.int .i64 s.length) := rfl
@[simp] theorem va_lenS (x : Opd) : val R h (.lenS x) = lenSV (go R h) (ev R.tm x) := by
  simp only [val, aval, lenSV]; cases ev R.tm x <;> rfl
def lenLO (K : AV → Prop) (ver n : Nat) : Option AObj → Prop
  | some ob => ob.ver = ver ∧ K (.int .i64 n)
  | none => False
def lenLV (K : AV → Prop) (h : List AObj) : AV → Prop
  | .sl _ xs => K (.int .i64 xs.length)
  | .osl o ver _ n => lenLO K ver n h[o]?
  | .nils => K (.int .i64 0)
  | _ => False
omit [Glob] in
@[simp] theorem lenLO_s (ver n : Nat) (ob : AObj) : lenLO K ver n (some ob) = (ob.ver = ver ∧ K (.int .i64 n)) := rfl
omit [Glob] in
@[simp] theorem lenL_s (sz : Nat) (xs : List AV) : lenLV K h (.sl sz xs) = K (.int .i64 xs.length) := rfl
omit [Glob] in
@[simp] theorem lenL_o (o ver off n : Nat) : lenLV K h (.osl o ver off n) = lenLO K ver n h[o]? := rfl
omit [Glob] in
@[simp] theorem lenL_n : lenLV K h .nils = K (.int .i64 0) := rfl
@[simp] theorem va_lenL (x : Opd) : val R h (.lenL x) = lenLV (go R h) h (ev R.tm x) := by
  simp only [val, aval, lenLV, lenLO]; cases ev R.tm x <;> rfl
def bstrX (K : AV → Prop) : Option (List UInt8) → Prop
  | some l => K (.str l)
  | none => False
def bstrV (K : AV → Prop) : AV → Prop
  | .sl sz xs => (sz = 1 ∧ xs ≠ []) ∧ bstrX K (bytesA xs)
  | _ => False
omit [Glob] in
@[simp] theorem bstrX_s (l : List UInt8) : bstrX K (some l) = K (.str l) := rfl
omit [Glob] in
@[simp] theorem bstr_s (sz : Nat) (xs : List AV) : bstrV K (.sl sz xs) = ((sz = 1 ∧ xs ≠ []) ∧ bstrX K (bytesA xs)) := rfl
@[simp] theorem va_bstr (x : Opd) : val R h (.bstr x) = bstrV (go R h) (ev R.tm x) := by
  simp only [val, aval, bstrV, bstrX]; cases ev R.tm x <;> rfl
def mxV (K : AV → Prop) (g : Bool) (x y : AV) : Prop :=
  match x, y with
  | .int k a, .int k' b => k = k' ∧ K (.int k (if g then (if b > a then b else a) else (if b < a then b else a)))
  | _, _ => False
omit [Glob] in
@[simp] theorem mx_i (g : Bool) (k k' : IntKind) (a b : Int) : mxV K g (.int k a) (.int k' b) = (k = k' ∧ K (.int k (if g then (if b > a then b else a) else (if b < a then b else a)))) := rfl
@[simp] theorem va_mx (g : Bool) (x y : Opd) : val R h (.mx g x y) = mxV (go R h) g (ev R.tm x) (ev R.tm y) := by
  simp only [val, aval, mxV]
  cases ev R.tm x <;> cases ev R.tm y <;> rfl
@[simp] theorem va_mkf (f : FuncId) (l : List Opd) : val R h (.mkf f l) = go R h (.fn f (l.map (ev R.tm))) := rfl
@[simp] theorem va_mki (t : TypeId) (x : Opd) : val R h (.mki t x) = go R h (.iface t (ev R.tm x)) := rfl
def nckO (K : AV → Prop) (o ver i k : Nat) : Option AObj → Prop
  | some ob => ob.ver = ver ∧ K (.ptr o ver i k)
  | none => False
def nckV (K : AV → Prop) (h : List AObj) : AV → Prop
  | .ptr o ver i k => nckO K o ver i k h[o]?
  | .rp xs => K (.rp xs)
  | _ => False
omit [Glob] in
@[simp] theorem nckO_s (o ver i k : Nat) (ob : AObj) : nckO K o ver i k (some ob) = (ob.ver = ver ∧ K (.ptr o ver i k)) := rfl
omit [Glob] in
@[simp] theorem nck_p (o ver i k : Nat) : nckV K h (.ptr o ver i k) = nckO K o ver i k h[o]? := rfl
omit [Glob] in
@[simp] theorem nck_r (xs : List AV) : nckV K h (.rp xs) = K (.rp xs) := rfl
@[simp] theorem va_nck (x : Opd) : val R h (.nck x) = nckV (go R h) h (ev R.tm x) := by
  simp only [val, aval, nckV, nckO]; cases ev R.tm x <;> rfl
def bldV (K : AV → Prop) : List AV → List (Nat × Nat × AV) → Prop
  | z, [] => K (.agg z)
  | z, (off, n, v) :: r => (v.kn = true ∧ v.cells.length = n ∧ off + n ≤ z.length) ∧ bldV K (z.take off ++ v.cells ++ z.drop (off + n)) r
omit [Glob] in
@[simp] theorem bld_n (z : List AV) : bldV K z [] = K (.agg z) := rfl
omit [Glob] in
@[simp] theorem bld_c (z : List AV) (off n : Nat) (v : AV) (r : List (Nat × Nat × AV)) : bldV K z ((off, n, v) :: r) = ((v.kn = true ∧ v.cells.length = n ∧ off + n ≤ z.length) ∧ bldV K (z.take off ++ v.cells ++ z.drop (off + n)) r) := rfl
omit [Glob] in
theorem bldV_eq {f : Opd → AV} : ∀ (ps : List (Nat × Nat × Opd)) (z : List AV), bldK f z ps (fun l => K (.agg l)) = bldV K z (ps.map fun p => (p.1, p.2.1, f p.2.2))
  | [], z => rfl
  | (off, n, x) :: r, z => by simp only [bldK, List.map_cons, bldV]; rw [bldV_eq r]
@[simp] theorem va_bld (z : List AV) (ps : List (Nat × Nat × Opd)) : val R h (.bld z ps) = bldV (go R h) z (ps.map fun p => (p.1, p.2.1, ev R.tm p.2.2)) := bldV_eq ps z
def eqX (K : AV → Prop) (neg : Bool) : Option Bool → Prop
  | some r => K (.bool (neg != r))
  | none => False
def eqAV (K : AV → Prop) (neg : Bool) (q : List CK) (x y : AV) : Prop :=
  match x, y with
  | .agg a, .agg b => eqX K neg (cellsEq q a b)
  | _, _ => False
omit [Glob] in
@[simp] theorem eqX_s (neg r : Bool) : eqX K neg (some r) = K (.bool (neg != r)) := rfl
omit [Glob] in
@[simp] theorem eqA_a (neg : Bool) (q : List CK) (a b : List AV) : eqAV K neg q (.agg a) (.agg b) = eqX K neg (cellsEq q a b) := rfl
@[simp] theorem va_eqA (neg : Bool) (q : List CK) (x y : Opd) : val R h (.eqA neg q x y) = eqAV (go R h) neg q (ev R.tm x) (ev R.tm y) := by
  simp only [val, aval, eqAV, eqX]
  cases ev R.tm x <;> cases ev R.tm y <;> rfl
def isNV (K : AV → Prop) (neg : Bool) (c : NK) (x : AV) : Prop :=
  match c, x with
  | .s, .nils => K (.bool (!neg))
  | .i, .nili => K (.bool (!neg))
  | .f, .nilf => K (.bool (!neg))
  | .i, .iface .. => K (.bool neg)
  | .f, .fn .. => K (.bool neg)
  | _, _ => False
omit [Glob] in
@[simp] theorem isN_s (neg : Bool) : isNV K neg .s .nils = K (.bool (!neg)) := rfl
omit [Glob] in
@[simp] theorem isN_i (neg : Bool) : isNV K neg .i .nili = K (.bool (!neg)) := rfl
omit [Glob] in
@[simp] theorem isN_f (neg : Bool) : isNV K neg .f .nilf = K (.bool (!neg)) := rfl
omit [Glob] in
@[simp] theorem isN_ii (neg : Bool) (t : TypeId) (v : AV) : isNV K neg .i (.iface t v) = K (.bool neg) := rfl
omit [Glob] in
@[simp] theorem isN_ff (neg : Bool) (f : FuncId) (l : List AV) : isNV K neg .f (.fn f l) = K (.bool neg) := rfl
@[simp] theorem va_isN (neg : Bool) (c : NK) (x : Opd) : val R h (.isN neg c x) = isNV (go R h) neg c (ev R.tm x) := rfl

/-! What turns objects. -/
@[simp] theorem st_alloc (sz ty : Nat) (z : AV) : step1 R h (.alloc sz ty z) = go R (h ++ [⟨0, sz, ty, false, [z]⟩]) (.ptr h.length 0 0 0) := rfl
@[simp] theorem st_box (sz ty : Nat) (x : Opd) : step1 R h (.box sz ty x) = (((ev R.tm x).kn = true ∧ (ev R.tm x).cells.length = sz) ∧ go R (h ++ [⟨0, sz, ty, false, [ev R.tm x]⟩]) (.ptr h.length 0 0 0)) := rfl
def storeX (R : Rest) (h : List AObj) (o n k i : Nat) (ob : AObj) (v : AV) : Option AV → Prop
  | some y => (k + n ≤ ob.sz ∧ v.cells.length = n ∧ v.cells.all AV.one = true ∧ (ob.pur = true → v.pure = true)) ∧ go R (h.set o ⟨ob.ver, ob.sz, ob.ty, ob.pur, ob.xs.set i (putc y k n v)⟩) .any
  | none => False
def storeO (R : Rest) (h : List AObj) (o n ver i k : Nat) (v : AV) : Option AObj → Prop
  | some ob => ob.ver = ver ∧ storeX R h o n k i ob v ob.xs[i]?
  | none => False
def storeV (R : Rest) (h : List AObj) (n : Nat) (v : AV) : AV → Prop
  | .ptr o ver i k => storeO R h o n ver i k v h[o]?
  | _ => False
@[simp] theorem storeX_s (o n k i : Nat) (ob : AObj) (v y : AV) : storeX R h o n k i ob v (some y) = ((k + n ≤ ob.sz ∧ v.cells.length = n ∧ v.cells.all AV.one = true ∧ (ob.pur = true → v.pure = true)) ∧ go R (h.set o ⟨ob.ver, ob.sz, ob.ty, ob.pur, ob.xs.set i (putc y k n v)⟩) .any) := rfl
@[simp] theorem storeO_s (o n ver i k : Nat) (v : AV) (ob : AObj) : storeO R h o n ver i k v (some ob) = (ob.ver = ver ∧ storeX R h o n k i ob v ob.xs[i]?) := rfl
@[simp] theorem store_p (n : Nat) (v : AV) (o ver i k : Nat) : storeV R h n v (.ptr o ver i k) = storeO R h o n ver i k v h[o]? := rfl
@[simp] theorem st_store (n : Nat) (p x : Opd) : step1 R h (.store n p x) = storeV R h n (ev R.tm x) (ev R.tm p) := by
  simp only [step1, astep, storeV, storeO, storeX]
  cases ev R.tm p <;> try rfl
  rename_i o ver i k
  simp only []
  cases h[o]? with
  | none => rfl
  | some ob =>
    simp only []
    cases ob.xs[i]? with
    | none => simp
    | some y => simp only [and_assoc]
def appTO (R : Rest) (h : List AObj) (sz ty bytes o ver off len : Nat) (ys : List AV) : Option AObj → Prop
  | some ob => (ob.ver = ver ∧ ob.sz = sz ∧ ob.ty = ty ∧ ob.pur = true ∧ off = 0 ∧ len = ob.xs.length ∧ (len + ys.length) * bytes ≤ 140737488355328) ∧ go R (h.set o ⟨ver + 1, ob.sz, ob.ty, ob.pur, ob.xs ++ ys⟩) (.osl o (ver + 1) 0 (len + ys.length))
  | none => False
def appT (R : Rest) (h : List AObj) (sz ty bytes : Nat) (ys : List AV) : AV → Prop
  | .nils => ys.length * bytes ≤ 140737488355328 ∧ go R (h ++ [⟨0, sz, ty, true, ys⟩]) (.osl h.length 0 0 ys.length)
  | .osl o ver off len => appTO R h sz ty bytes o ver off len ys h[o]?
  | _ => False
def appO (R : Rest) (h : List AObj) (sz ty bytes ver off len : Nat) (x : AV) : Option AObj → Prop
  | some ob => (ob.ver = ver ∧ ob.sz = sz ∧ ob.pur = true) ∧ appT R h sz ty bytes ((ob.xs.drop off).take len) x
  | none => False
def appV (R : Rest) (h : List AObj) (sz ty bytes : Nat) (x : AV) : AV → Prop
  | .sl sz' ys => sz' = sz ∧ appT R h sz ty bytes ys x
  | .nils => appT R h sz ty bytes [] x
  | .osl o ver off len => appO R h sz ty bytes ver off len x h[o]?
  | _ => False
@[simp] theorem appTO_s (sz ty bytes o ver off len : Nat) (ys : List AV) (ob : AObj) : appTO R h sz ty bytes o ver off len ys (some ob) = ((ob.ver = ver ∧ ob.sz = sz ∧ ob.ty = ty ∧ ob.pur = true ∧ off = 0 ∧ len = ob.xs.length ∧ (len + ys.length) * bytes ≤ 140737488355328) ∧ go R (h.set o ⟨ver + 1, ob.sz, ob.ty, ob.pur, ob.xs ++ ys⟩) (.osl o (ver + 1) 0 (len + ys.length))) := rfl
@[simp] theorem appT_n (sz ty bytes : Nat) (ys : List AV) : appT R h sz ty bytes ys .nils = (ys.length * bytes ≤ 140737488355328 ∧ go R (h ++ [⟨0, sz, ty, true, ys⟩]) (.osl h.length 0 0 ys.length)) := rfl
@[simp] theorem appT_o (sz ty bytes o ver off len : Nat) (ys : List AV) : appT R h sz ty bytes ys (.osl o ver off len) = appTO R h sz ty bytes o ver off len ys h[o]? := rfl
@[simp] theorem appO_s (sz ty bytes ver off len : Nat) (x : AV) (ob : AObj) : appO R h sz ty bytes ver off len x (some ob) = ((ob.ver = ver ∧ ob.sz = sz ∧ ob.pur = true) ∧ appT R h sz ty bytes ((ob.xs.drop off).take len) x) := rfl
@[simp] theorem app_s (sz ty bytes sz' : Nat) (x : AV) (ys : List AV) : appV R h sz ty bytes x (.sl sz' ys) = (sz' = sz ∧ appT R h sz ty bytes ys x) := rfl
@[simp] theorem app_n (sz ty bytes : Nat) (x : AV) : appV R h sz ty bytes x .nils = appT R h sz ty bytes [] x := rfl
@[simp] theorem app_o (sz ty bytes o ver off len : Nat) (x : AV) : appV R h sz ty bytes x (.osl o ver off len) = appO R h sz ty bytes ver off len x h[o]? := rfl
theorem appT_eq (sz ty bytes : Nat) (x : AV) (ys : List AV) : appTo sz ty bytes h x ys (fun v h' => go R h' v) = appT R h sz ty bytes ys x := by
  simp only [appTo, appT, appTO]
  cases x <;> rfl
@[simp] theorem st_app (sz ty bytes : Nat) (x y : Opd) : step1 R h (.app sz ty bytes x y) = appV R h sz ty bytes (ev R.tm x) (ev R.tm y) := by
  simp only [step1, astep, appV, appO, appT_eq]
  cases ev R.tm y <;> rfl
@[simp] theorem st_bsl (sz ty : Nat) (l : List Opd) : step1 R h (.bsl sz ty l) = (okL sz (l.map (ev R.tm)) = true ∧ go R (h ++ [⟨0, sz, ty, true, l.map (ev R.tm)⟩]) (.osl h.length 0 0 l.length)) := rfl
@[simp] theorem st_lit (sz : Nat) (l : List Opd) : step1 R h (.lit sz l) = (okL sz (l.map (ev R.tm)) = true ∧ go R h (.sl sz (l.map (ev R.tm)))) := rfl
/-- A call of a pure function, by its contract. -/
def callA (P : Program) (f : FuncId) (args : List AV) (K : AV → Prop) : Prop := ∃ v, V P f args (.ret v) ∧ K v
theorem callA_of {f : FuncId} {args : List AV} {v : AV} (hv : V P f args (.ret v)) (k : K v) : callA P f args K := ⟨v, hv, k⟩
@[simp] theorem st_callV (f : FuncId) (l : List Opd) : step1 R h (.callV f l) = callA R.P f (l.map (ev R.tm)) (go R h) := rfl
def cvalA (P : Program) (args : List AV) (K : AV → Prop) : AV → Prop
  | .fn f cap => callOK P f = true ∧ callA P f (args ++ cap) K
  | _ => False
@[simp] theorem cvalA_f (args : List AV) (f : FuncId) (cap : List AV) : cvalA P args K (.fn f cap) = (callOK P f = true ∧ callA P f (args ++ cap) K) := rfl
@[simp] theorem st_cvalV (g : Opd) (l : List Opd) : step1 R h (.cvalV g l) = cvalA R.P (l.map (ev R.tm)) (go R h) (ev R.tm g) := by
  simp only [step1, astep, cvalA]; cases ev R.tm g <;> rfl
/-- A call of a pure function to which own rows are handed to be read. -/
def callF (P : Program) (h : List AObj) (f : FuncId) (args : List AV) (K : AV → Prop) : Prop := ∃ v, (Glob.top ∧ V P f (frzL 0 h args) (.ret v) ∧ pureL (frzL 0 h args) = true ∧ v.scal = true) ∧ K v
theorem callF_of [Top] {f : FuncId} {args args' : List AV} {v : AV} (hv : V P f args' (.ret v)) (ha : frzL 0 h args = args') (hp : pureL args' = true) (hs : v.scal = true) (k : K v) : callF P h f args K := ⟨v, ⟨Top.top, by rw [ha]; exact hv, by rw [ha]; exact hp, hs⟩, k⟩
theorem callF_pure [Top] {f : FuncId} {args : List AV} {v : AV} (hp : pureL args = true) (hv : V P f args (.ret v)) (hs : v.scal = true) (k : K v) : callF P h f args K := callF_of hv (frzL_pure h args hp) hp hs k
@[simp] theorem st_callO (f : FuncId) (l : List Opd) : step1 R h (.callO f l) = callF R.P h f (l.map (ev R.tm)) (go R h) := rfl
def cvalF (P : Program) (h : List AObj) (args : List AV) (K : AV → Prop) : AV → Prop
  | .fn f cap => callOK P f = true ∧ callF P h f (args ++ cap) K
  | _ => False
@[simp] theorem cvalF_f (args : List AV) (f : FuncId) (cap : List AV) : cvalF P h args K (.fn f cap) = (callOK P f = true ∧ callF P h f (args ++ cap) K) := rfl
@[simp] theorem st_cvalO (g : Opd) (l : List Opd) : step1 R h (.cvalO g l) = cvalF R.P h (l.map (ev R.tm)) (go R h) (ev R.tm g) := by
  simp only [step1, astep, cvalF, callF]; cases ev R.tm g <;> rfl
/-- A call of a pure function that may panic, by its contract. -/
def callB (R : Rest) (h : List AObj) (f : FuncId) (args : List AV) : Prop := ∃ o, V R.P f args o ∧ match o with
  | .ret v => go R h v
  | .pan v => panQ R.Q v h
theorem callB_ret {f : FuncId} {args : List AV} {v : AV} (hv : V R.P f args (.ret v)) (k : go R h v) : callB R h f args := ⟨_, hv, k⟩
theorem callB_pan {f : FuncId} {args : List AV} {v : AV} (hv : V R.P f args (.pan v)) (k : R.Q (.pan v) ⟨0, 0, [], h⟩) : callB R h f args := ⟨_, hv, k⟩
@[simp] theorem st_callP (f : FuncId) (l : List Opd) : step1 R h (.callP f l) = callB R h f (l.map (ev R.tm)) := rfl
def cvalB (R : Rest) (h : List AObj) (args : List AV) : AV → Prop
  | .fn f cap => callOK R.P f = true ∧ callB R h f (args ++ cap)
  | _ => False
@[simp] theorem cvalB_f (args : List AV) (f : FuncId) (cap : List AV) : cvalB R h args (.fn f cap) = (callOK R.P f = true ∧ callB R h f (args ++ cap)) := rfl
@[simp] theorem st_cvalP (g : Opd) (l : List Opd) : step1 R h (.cvalP g l) = cvalB R h (l.map (ev R.tm)) (ev R.tm g) := by
  simp only [step1, astep, cvalB, callB]; cases ev R.tm g <;> rfl
/-- A call by its full contract. -/
def callH (R : Rest) (h : List AObj) (f : FuncId) (args : List AV) : Prop := VH R.P f args h fun o h' => match o with
  | .ret v => go R h' v
  | .pan v => panQ R.Q v h'
theorem callH_of {f : FuncId} {args : List AV} {C : Out → List AObj → Prop} (hv : VH R.P f args h C) (kr : ∀ v h', C (.ret v) h' → go R h' v) (kp : ∀ v h', C (.pan v) h' → R.Q (.pan v) ⟨0, 0, [], h'⟩) : callH R h f args :=
  hv.mono fun o h' c => by cases o <;> first | exact kr _ _ c | exact kp _ _ c
@[simp] theorem st_call (f : FuncId) (l : List Opd) : step1 R h (.call f l) = callH R h f (l.map (ev R.tm)) := rfl
def cvalH (R : Rest) (h : List AObj) (args : List AV) : AV → Prop
  | .fn f cap => callOK R.P f = true ∧ callH R h f (args ++ cap)
  | _ => False
@[simp] theorem cvalH_f (args : List AV) (f : FuncId) (cap : List AV) : cvalH R h args (.fn f cap) = (callOK R.P f = true ∧ callH R h f (args ++ cap)) := rfl
@[simp] theorem st_cval (g : Opd) (l : List Opd) : step1 R h (.cval g l) = cvalH R h (l.map (ev R.tm)) (ev R.tm g) := by
  simp only [step1, astep, cvalH, callH]; cases ev R.tm g <;> rfl
/-- A call of the yield of the loop that is being gone round. -/
def yldA (R : Rest) (h : List AObj) (args : List AV) : AV → Prop
  | .yld => VY R.P args h fun o h' => match o with
    | .ret v => go R h' v
    | .pan v => panQ R.Q v h'
  | _ => False
@[simp] theorem st_yld (g : Opd) (l : List Opd) : step1 R h (.yld g l) = yldA R h (l.map (ev R.tm)) (ev R.tm g) := by
  simp only [step1, astep, yldA]; cases ev R.tm g <;> rfl
theorem yldA_of {args : List AV} {C : Out → List AObj → Prop} (hv : VY R.P args h C) (kr : ∀ v h', C (.ret v) h' → go R h' v) (kp : ∀ v h', C (.pan v) h' → R.Q (.pan v) ⟨0, 0, [], h'⟩) : yldA R h args .yld :=
  hv.mono fun o h' c => by cases o <;> first | exact kr _ _ c | exact kp _ _ c
def panV (R : Rest) (h : List AObj) : AV → Prop
  | .iface t v => R.Q (.pan (.iface t v)) ⟨0, 0, [], h⟩
  | _ => False
omit [Glob] in
@[simp] theorem pan_i (t : TypeId) (v : AV) : panV R h (.iface t v) = R.Q (.pan (.iface t v)) ⟨0, 0, [], h⟩ := rfl
@[simp] theorem st_pan (x : Opd) : step1 R h (.pan x) = panV R h (ev R.tm x) := by
  simp only [step1, astep, panV]; cases ev R.tm x <;> rfl

omit [Glob] in
@[simp] theorem mkv_t (l : List AV) : mkv true l = .agg l := rfl
omit [Glob] in
@[simp] theorem mkv_f (x : AV) (l : List AV) : mkv false (x :: l) = x := rfl
omit [Glob] in
@[simp] theorem argT_nil (n : Nat) : argT n [] = [] := rfl
omit [Glob] in
@[simp] theorem argT_cons (n : Nat) (x : AV) (l : List AV) : argT n (x :: l) = (n, x) :: argT (n + 1) l := rfl
end
attribute [simp] onesP frz frzL AV.scal scalL AV.noY noYL noYH AV.cells AV.kn AV.one AV.pure pureL binI binS cellsEq putc retV resK tupV frz frzL okL
end Go.Pe
