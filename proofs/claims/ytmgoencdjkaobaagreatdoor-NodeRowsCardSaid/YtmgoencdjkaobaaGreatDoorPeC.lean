/- Operations of the calculus 'Pe' that yield a value and turn nothing: what they are, out of which operations of the model they come, and that they are sound. No program in sight; no conditions. -/
import Derived.Laws.BytesArg
import Derived.Test.YtmgoencdjkaobaaGreatDoorPeB
import Derived.Tactics
import Derived.Laws.Strings
import Derived.Laws.Cells
import Derived.Laws.Entries
import Derived.Laws.Tables
import Derived.Laws.StructEq
import Derived.Laws.Cover3
set_option linter.unusedVariables false
set_option linter.unusedSimpArgs false
namespace Go.Pe

inductive Opd where
  | t (n : Nat)
  | c (v : AV)
  deriving Inhabited
def ev (tm : List (Nat × AV)) : Opd → AV
  | .t n => lk tm n
  | .c v => v
def constA : Value → Option AV
  | .bool b => some (.bool b)
  | .int k n => some (.int k n)
  | .float k b => some (.flt k b)
  | .string s => some (.str s.data.toList)
  | .pointer none => some .nilp
  | .nilFunc => some .nilf
  | .nilIface => some .nili
  | .slice none 0 0 => some .nils
  | _ => none
def constL : List Value → Option (List AV)
  | [] => some []
  | v :: r => match constA v, constL r with
    | some x, some l => some (x :: l)
    | _, _ => none
def constV : Value → Option AV
  | .agg cs => (constL cs.toList).map .agg
  | v => constA v
def compO : Operand → Option Opd
  | .tmp t => some (.t t)
  | .const v => (constV v).map .c
  | .func f => some (.c (.fn f []))
  | .global _ => none
def compOs : List Operand → Option (List Opd)
  | [] => some []
  | x :: r => match compO x, compOs r with
    | some y, some l => some (y :: l)
    | _, _ => none

section
variable {X : Env} {w : World} {h : List AObj} {bs : List (Option Nat)}
theorem constA_rep {v : Value} {x : AV} (e : constA v = some x) : Rep X w h bs x v := by
  unfold constA at e
  split at e <;> first | cases e | skip
  · exact .bool _
  · exact .int _ _
  · exact .flt _ _
  · exact .str _
  · exact .nilp
  · exact .nilf
  · exact .nili
  · exact .nils
theorem constL_rep : ∀ {l : List Value} {r : List AV}, constL l = some r → r.length = l.length ∧ ∀ (j : Nat) (x : AV) (v : Value), r[j]? = some x → l[j]? = some v → Rep X w h bs x v
  | [], r, e => by simp only [constL, Option.some.injEq] at e; subst e; simp
  | v :: l, r, e => by
    simp only [constL] at e
    split at e
    · rename_i x y e1 e2
      cases e
      obtain ⟨a, b⟩ := constL_rep e2
      refine ⟨by simp [a], fun j x' v' h1 h2 => ?_⟩
      cases j with
      | zero => simp at h1 h2; subst h1 h2; exact constA_rep e1
      | succ j => simp at h1 h2; exact b j _ _ h1 h2
    · cases e
theorem constV_rep {v : Value} {x : AV} (e : constV v = some x) : Rep X w h bs x v := by
  unfold constV at e
  split at e
  · rename_i cs
    cases h1 : constL cs.toList with
    | none => rw [h1] at e; cases e
    | some l =>
      rw [h1] at e; cases e
      obtain ⟨a, b⟩ := constL_rep (X := X) (w := w) (h := h) (bs := bs) h1
      exact .agg l cs (by simpa using a.symm) (fun j x v e1 e2 => b j x v e1 (by simpa using e2))
  · exact constA_rep e
end

section
variable [Glob] {X : Env} {P : Program} {lw : Option Nat} {w : World} {a : Act} {bs : List (Option Nat)} {s : St}
theorem StRel.opd (r : StRel X lw w a bs s) {x : Operand} {y : Opd} (e : compO x = some y) : Rep X w s.h bs (ev s.tm y) (a.eval x) := by
  cases x with
  | tmp t => cases e; exact r.tm t
  | const v =>
    simp only [compO] at e
    cases h1 : constV v with
    | none => rw [h1] at e; cases e
    | some z => rw [h1] at e; cases e; exact constV_rep h1
  | func f => cases e; exact .fn f [] #[] rfl (by simp)
  | global g => cases e
theorem StRel.opds (r : StRel X lw w a bs s) : ∀ {l : List Operand} {m : List Opd}, compOs l = some m → RepL X w s.h bs (m.map (ev s.tm)) (l.map a.eval)
  | [], m, e => by cases e; exact ⟨rfl, by simp⟩
  | x :: l, m, e => by
    simp only [compOs] at e
    split at e
    · rename_i y ys e1 e2
      cases e
      obtain ⟨p, q⟩ := r.opds e2
      refine ⟨by simpa using p, fun j x' v' h1 h2 => ?_⟩
      cases j with
      | zero => simp at h1 h2; subst h1 h2; exact r.opd e1
      | succ j => simp only [List.map_cons, List.getElem?_cons_succ] at h1 h2; exact q j _ _ h1 h2
    · cases e
end

def AV.kn : AV → Bool
  | .any => false
  | _ => true

/-- What may be nil. -/
inductive NK where
  | s | i | f
/-- What one cell of a struct that is compared holds. -/
inductive CK where
  | bool | int | str
/-- Are two values of several cells equal? -/
def cellsEq : List CK → List AV → List AV → Option Bool
  | [], [], [] => some true
  | .int :: q, .int k a :: r, .int k' b :: s => if k = k' then (cellsEq q r s).map ((a == b) && ·) else none
  | .bool :: q, .bool a :: r, .bool b :: s => (cellsEq q r s).map ((a == b) && ·)
  | .str :: q, .str a :: r, .str b :: s => (cellsEq q r s).map ((a == b) && ·)
  | _, _, _ => none
def mkv (ag : Bool) (l : List AV) : AV := if ag then .agg l else l.headD .any
def binI (op : BinOp) (k : IntKind) (a b : Int) (K : AV → Prop) : Prop :=
  match op with
  | .add => K (.int k (k.wrap (a + b)))
  | .sub => K (.int k (k.wrap (a - b)))
  | .mul => K (.int k (k.wrap (a * b)))
  | .quo => b ≠ 0 ∧ K (.int k (k.wrap (a.tdiv b)))
  | .rem => b ≠ 0 ∧ K (.int k (a.tmod b))
  | .eql => K (.bool (a == b))
  | .neq => K (.bool (a != b))
  | .lss => K (.bool (decide (a < b)))
  | .leq => K (.bool (decide (a ≤ b)))
  | .gtr => K (.bool (decide (a > b)))
  | .geq => K (.bool (decide (a ≥ b)))
  | _ => False
def binS (op : BinOp) (a b : List UInt8) (K : AV → Prop) : Prop :=
  match op with
  | .add => a.length + b.length ≤ 9223372036854775807 ∧ K (.str (a ++ b))
  | .eql => K (.bool (a == b))
  | .neq => K (.bool (a != b))
  | .lss => K (.bool (Op.bytesLess a b))
  | .leq => K (.bool (Op.bytesLess a b || a == b))
  | .gtr => K (.bool (!(Op.bytesLess a b || a == b)))
  | .geq => K (.bool (!Op.bytesLess a b))
  | _ => False

inductive AExp where
  | mov (x : Opd)
  | pick (c x y : Opd)
  | bin (op : BinOp) (x y : Opd)
  | binB (op : BinOp) (x y : Opd)
  | un (op : UnOp) (x : Opd)
  | cint (k : IntKind) (x : Opd)
  | cstr (x : Opd)
  | load (ag : Bool) (n : Nat) (x : Opd)
  | fad (off : Nat) (x : Opd)
  | iad (sz : Nat) (x i : Opd)
  | idx (x i : Opd)
  | fld (ag : Bool) (off n : Nat) (x : Opd)
  | slS (x : Opd) (lo hi : Option Opd)
  | slL (sz : Nat) (x : Opd) (lo hi : Option Opd)
  | ext (x : Opd) (i : Nat)
  | lenS (x : Opd)
  | lenL (x : Opd)
  | mx (g : Bool) (x y : Opd)
  | bstr (x : Opd)
  | mkf (f : FuncId) (l : List Opd)
  | mki (t : TypeId) (x : Opd)
  | nck (x : Opd)
  | bld (z : List AV) (ps : List (Nat × Nat × Opd))
  | eqA (neg : Bool) (q : List CK) (x y : Opd)
  | isN (neg : Bool) (c : NK) (x : Opd)
  deriving Inhabited

/-- A struct out of its parts. -/
def bldK (f : Opd → AV) : List AV → List (Nat × Nat × Opd) → (List AV → Prop) → Prop
  | z, [], K => K z
  | z, (off, n, x) :: r, K => ((f x).kn = true ∧ (f x).cells.length = n ∧ off + n ≤ z.length) ∧ bldK f (z.take off ++ (f x).cells ++ z.drop (off + n)) r K

def bound (tm : List (Nat × AV)) (d : Int) : Option Opd → (Int → Prop) → Prop
  | none, K => K d
  | some x, K => match ev tm x with
    | .int _ n => K n
    | _ => False

/-- What an operation yields. -/
def bytesA : List AV → Option (List UInt8)
  | [] => some []
  | .int .u8 n :: r => (bytesA r).map (UInt8.ofNat n.toNat :: ·)
  | _ => none
def aval (h : List AObj) (tm : List (Nat × AV)) : AExp → (AV → Prop) → Prop
  | .mov x, K => K (ev tm x)
  | .pick c x y, K => match ev tm c with
    | .bool b => (b = true → K (ev tm x)) ∧ (b = false → K (ev tm y))
    | _ => False
  | .bin op x y, K => match ev tm x, ev tm y with
    | .int k a, .int k' b => k = k' ∧ binI op k a b K
    | .str a, .str b => binS op a b K
    | _, _ => False
  | .binB op x y, K => match op, ev tm x, ev tm y with
    | .eql, .bool a, .bool b => K (.bool (a == b))
    | .neq, .bool a, .bool b => K (.bool (a != b))
    | _, _, _ => False
  | .un op x, K => match op, ev tm x with
    | .not, .bool b => K (.bool (!b))
    | .neg, .int k n => K (.int k (k.wrap (0 - n)))
    | _, _ => False
  | .cint k x, K => match ev tm x with
    | .int _ n => K (.int k (k.wrap n))
    | _ => False
  | .cstr x, K => match ev tm x with
    | .str s => K (.str s)
    | _ => False
  | .load ag n x, K => match ev tm x with
    | .ptr o ver i k => match h[o]? with
      | some ob => (ob.ver = ver ∧ k + n ≤ ob.sz) ∧ match ob.xs[i]? with
        | some y => K (mkv ag ((y.cells.drop k).take n))
        | none => False
      | none => False
    | .rp xs => n ≤ xs.length ∧ K (mkv ag (xs.take n))
    | _ => False
  | .fad off x, K => match ev tm x with
    | .ptr o ver i k => match h[o]? with
      | some ob => ob.ver = ver ∧ K (.ptr o ver i (k + off))
      | none => False
    | .rp xs => K (.rp (xs.drop off))
    | _ => False
  | .iad sz x i, K => match ev tm x, ev tm i with
    | .sl sz' xs, .int _ n => (sz' = sz ∧ 0 ≤ n ∧ n < xs.length) ∧ K (.rp (xs.getD n.toNat .any).cells)
    | .osl o ver off len, .int _ n => match h[o]? with
      | some ob => (ob.ver = ver ∧ ob.sz = sz ∧ 0 ≤ n ∧ n < len) ∧ K (.ptr o ver (off + n.toNat) 0)
      | none => False
    | _, _ => False
  | .idx x i, K => match ev tm x, ev tm i with
    | .str s, .int _ n => (0 ≤ n ∧ n < s.length) ∧ K (.int .u8 (s.getD n.toNat 0).toNat)
    | _, _ => False
  | .fld ag off n x, K => match ev tm x with
    | .agg l => off + n ≤ l.length ∧ K (mkv ag ((l.drop off).take n))
    | _ => False
  | .slS x lo hi, K => match ev tm x with
    | .str s => bound tm 0 lo fun l => bound tm s.length hi fun r => (0 ≤ l ∧ l ≤ r ∧ r ≤ s.length) ∧ K (.str ((s.take r.toNat).drop l.toNat))
    | _ => False
  | .slL sz x lo hi, K => match ev tm x with
    | .sl sz' xs => bound tm 0 lo fun l => bound tm xs.length hi fun r => (sz' = sz ∧ 0 ≤ l ∧ l ≤ r ∧ r ≤ xs.length) ∧ K (.sl sz ((xs.take r.toNat).drop l.toNat))
    | .nils => bound tm 0 lo fun l => bound tm 0 hi fun r => (l = 0 ∧ r = 0) ∧ K .nils
    | .osl o ver off len => match h[o]? with
      | some ob => bound tm 0 lo fun l => bound tm len hi fun r => (ob.ver = ver ∧ ob.sz = sz ∧ 0 ≤ l ∧ l ≤ r ∧ r ≤ len) ∧ K (.osl o ver (off + l.toNat) (r - l).toNat)
      | none => False
    | _ => False
  | .ext x i, K => match ev tm x with
    | .tup l => match l[i]? with
      | some v => K v
      | none => False
    | _ => False
  | .lenS x, K => match ev tm x with
    | .str s => K (.int .i64 s.length)
    | _ => False
  | .bstr x, K => match ev tm x with
    | .sl sz xs => (sz = 1 ∧ xs ≠ []) ∧ match bytesA xs with
      | some l => K (.str l)
      | none => False
    | _ => False
  | .mx g x y, K => match ev tm x, ev tm y with
    | .int k a, .int k' b => k = k' ∧ K (.int k (if g then (if b > a then b else a) else (if b < a then b else a)))
    | _, _ => False
  | .lenL x, K => match ev tm x with
    | .sl _ xs => K (.int .i64 xs.length)
    | .osl o ver _ n => match h[o]? with
      | some ob => ob.ver = ver ∧ K (.int .i64 n)
      | none => False
    | .nils => K (.int .i64 0)
    | _ => False
  | .mkf f l, K => K (.fn f (l.map (ev tm)))
  | .mki t x, K => K (.iface t (ev tm x))
  | .nck x, K => match ev tm x with
    | .ptr o ver i k => match h[o]? with
      | some ob => ob.ver = ver ∧ K (.ptr o ver i k)
      | none => False
    | .rp xs => K (.rp xs)
    | _ => False
  | .bld z ps, K => bldK (ev tm) z ps fun l => K (.agg l)
  | .eqA neg q x y, K => match ev tm x, ev tm y with
    | .agg a, .agg b => match cellsEq q a b with
      | some r => K (.bool (neg != r))
      | none => False
    | _, _ => False
  | .isN neg c x, K => match c, ev tm x with
    | .s, .nils => K (.bool (!neg))
    | .i, .nili => K (.bool (!neg))
    | .f, .nilf => K (.bool (!neg))
    | .i, .iface .. => K (.bool neg)
    | .f, .fn .. => K (.bool neg)
    | _, _ => False

/-- How a type is read out of memory: a struct or an array, of so many cells; else one cell. -/
def agOf (P : Program) (t : TypeId) : Option (Bool × Nat) :=
  match P.underlying t with
  | some (.struct _) | some (.array ..) => (P.info? t).map fun i => (true, i.size)
  | some _ => some (false, 1)
  | none => none
def compB : Option Operand → Option (Option Opd)
  | none => some none
  | some x => (compO x).map some
/-- Fields of one cell each, side by side, that can be compared. -/
def flatF (P : Program) : Nat → List Field → Option (List CK)
  | _, [] => some []
  | n, f :: r => if f.name ≠ "_" ∧ f.offset = n then
      match P.underlying f.type, flatF P (n + 1) r with
      | some .bool, some l => some (.bool :: l)
      | some (.int _), some l => some (.int :: l)
      | some .string, some l => some (.str :: l)
      | _, _ => none
    else none
/-- Where the parts of a struct lie. -/
def partsOf (pl : List (Nat × Nat)) : List (Nat × Operand) → Option (List (Nat × Nat × Opd))
  | [] => some []
  | (i, x) :: r => match pl[i]?, compO x, partsOf pl r with
    | some p, some x, some l => some ((p.1, p.2, x) :: l)
    | _, _, _ => none
def compE (P : Program) : Op → Option AExp
  | .move x | .assign x => (compO x).map .mov
  | .pick c x y => match compO c, compO x, compO y with
    | some c, some x, some y => some (.pick c x y)
    | _, _, _ => none
  | .binOp op t x y _ => match P.underlying t, compO x, compO y with
    | some .bool, some x, some y => some (.binB op x y)
    | some (.int _), some x, some y => some (.bin op x y)
    | some .string, some x, some y => some (.bin op x y)
    | some (.struct fs), some x, some y => match flatF P 0 fs.toList, P.stoodInHeld t, P.eqGuardType P.depth t, op with
        | some q, false, false, .eql => some (.eqA false q x y)
        | some q, false, false, .neq => some (.eqA true q x y)
        | _, _, _, _ => none
    | some (.slice _), some x, some (.c .nils) => match op with
      | .eql => some (.isN false .s x)
      | .neq => some (.isN true .s x)
      | _ => none
    | some (.interface _), some x, some (.c .nili) => match op with
      | .eql => some (.isN false .i x)
      | .neq => some (.isN true .i x)
      | _ => none
    | some (.func ..), some x, some (.c .nilf) => match op with
      | .eql => some (.isN false .f x)
      | .neq => some (.isN true .f x)
      | _ => none
    | _, _, _ => none
  | .build t ps => match P.underlying t, P.info? t with
    | some (.struct fs), some i => match i.zero, fs.toList.mapM (fun f => (P.info? f.type).map fun i => (f.offset, i.size)) with
      | some (.agg z), some pl => match constL z.toList, partsOf pl ps.toList with
        | some z, some l => some (.bld z l)
        | _, _ => none
      | _, _ => none
    | _, _ => none
  | .unOp op _ x => (compO x).map (.un op)
  | .convert src dst x => match P.underlying src, P.underlying dst, compO x with
    | some _, some (.int k), some x => some (.cint k x)
    | some .string, some .string, some x => some (.cstr x)
    | some (.slice e), some .string, some x => match P.underlying e with
      | some (.int .u8) => some (.bstr x)
      | _ => none
    | _, _, _ => none
  | .load t x => match agOf P t, compO x with
    | some (ag, n), some x => some (.load ag n x)
    | _, _ => none
  | .fieldAddr t x f => match P.underlying t, compO x with
    | some (.struct fs), some x => match fs[f]? with
      | some fd => match P.info? fd.type with
        | some i => if i.size = 0 then none else some (.fad fd.offset x)
        | none => none
      | none => none
    | _, _ => none
  | .indexAddr t x i => match P.underlying t, compO x, compO i with
    | some (.slice e), some x, some i => (P.info? e).map fun j => .iad j.size x i
    | _, _, _ => none
  | .index t x i => match P.underlying t, compO x, compO i with
    | some .string, some x, some i => some (.idx x i)
    | _, _, _ => none
  | .field t x f => match P.underlying t, compO x with
    | some (.struct fs), some x => match fs[f]? with
      | some fd => match agOf P fd.type with
        | some (ag, n) => some (.fld ag fd.offset n x)
        | none => none
      | none => none
    | _, _ => none
  | .slice t x lo hi none => match P.underlying t, compO x, compB lo, compB hi with
    | some .string, some x, some lo, some hi => some (.slS x lo hi)
    | some (.slice e), some x, some lo, some hi => (P.info? e).map fun j => .slL j.size x lo hi
    | _, _, _, _ => none
  | .extract x i => (compO x).map (.ext · i)
  | .call c => match c.callee, c.args.toList, c.argTypes.toList with
    | .builtin .len, [x], [t] => match P.underlying t, compO x with
      | some .string, some x => some (.lenS x)
      | some (.slice _), some x => some (.lenL x)
      | _, _ => none
    | .builtin .max, [x, y], _ => match compO x, compO y with
      | some x, some y => some (.mx true x y)
      | _, _ => none
    | .builtin .min, [x, y], _ => match compO x, compO y with
      | some x, some y => some (.mx false x y)
      | _, _ => none
    | _, _, _ => none
  | .makeFunc fn first l => match fn, first.toList with
    | .func f, [] => (compOs l.toList).map (.mkf f)
    | _, _ => none
  | .makeInterface t x => match P.underlying t, compO x with
    | some (.interface _), _ => none
    | some _, some x => some (.mki t x)
    | _, _ => none
  | .nilCheck x => (compO x).map .nck
  | _ => none

/-- An operation yields a value that it stands for, and turns nothing. -/
def Yields (P : Program) (X : Env) (a : Act) (w : World) (h : List AObj) (bs : List (Option Nat)) (o : Oper) (K : AV → Prop) : Prop :=
  ∃ v x, (execOp a.eval o).run P w = .ok (.value x) w ∧ Rep X w h bs v x ∧ K v

section
variable [Glob] {X : Env} {P : Program} {lw : Option Nat} {w : World} {a : Act} {bs : List (Option Nat)} {s : St} {o : Oper} {K : AV → Prop}

theorem y_mov {x : Operand} {y : Opd} (ho : o.op = .move x ∨ o.op = .assign x) (hx : compO x = some y) (r : StRel X lw w a bs s) (k : aval s.h s.tm (.mov y) K) : Yields P X a w s.h bs o K := by
  refine ⟨_, a.eval x, ?_, r.opd hx, k⟩
  rcases ho with ho | ho <;> simp [execOp, ho]

theorem y_pick {c x y : Operand} {c' x' y' : Opd} (ho : o.op = .pick c x y) (hc : compO c = some c') (hx : compO x = some x') (hy : compO y = some y') (r : StRel X lw w a bs s) (k : aval s.h s.tm (.pick c' x' y') K) : Yields P X a w s.h bs o K := by
  simp only [aval] at k
  split at k
  · rename_i b hb
    have h1 := r.opd hc
    rw [hb] at h1
    have e := h1.bool_inv
    cases b with
    | true => exact ⟨_, a.eval x, by simp [execOp, ho, e, asBool], r.opd hx, k.1 rfl⟩
    | false => exact ⟨_, a.eval y, by simp [execOp, ho, e, asBool], r.opd hy, k.2 rfl⟩
  · exact k.elim

omit [Glob] in
theorem Rep.int_inv {h : List AObj} {k : IntKind} {n : Int} {v : Value} (r : Rep X w h bs (.int k n) v) : v = .int k n := by cases r; rfl
omit [Glob] in
theorem Rep.str_inv {h : List AObj} {l : List UInt8} {v : Value} (r : Rep X w h bs (.str l) v) : v = .string ⟨l.toArray⟩ := by cases r; rfl

theorem y_bin {op : BinOp} {t t' : TypeId} {x y : Operand} {x' y' : Opd} (ho : o.op = .binOp op t x y t') (hx : compO x = some x') (hy : compO y = some y') (r : StRel X lw w a bs s) (k : aval s.h s.tm (.bin op x' y') K) : Yields P X a w s.h bs o K := by
  simp only [aval] at k
  split at k
  · rename_i k1 n1 k2 n2 e1 e2
    obtain ⟨rfl, k⟩ := k
    have h1 := r.opd hx; rw [e1] at h1; have v1 := h1.int_inv
    have h2 := r.opd hy; rw [e2] at h2; have v2 := h2.int_inv
    cases op
    case add => simp only [binI] at k; exact ⟨.int k1 (k1.wrap (n1 + n2)), .int k1 (k1.wrap (n1 + n2)), by simp [execOp, ho, v1, v2, eqGuard, binOp, Op.intArith, Op.intCmp], .int _ _, k⟩
    case sub => simp only [binI] at k; exact ⟨.int k1 (k1.wrap (n1 - n2)), .int k1 (k1.wrap (n1 - n2)), by simp [execOp, ho, v1, v2, eqGuard, binOp, Op.intArith, Op.intCmp], .int _ _, k⟩
    case mul => simp only [binI] at k; exact ⟨.int k1 (k1.wrap (n1 * n2)), .int k1 (k1.wrap (n1 * n2)), by simp [execOp, ho, v1, v2, eqGuard, binOp, Op.intArith, Op.intCmp], .int _ _, k⟩
    case eql => simp only [binI] at k; exact ⟨.bool (n1 == n2), .bool (n1 == n2), by simp [execOp, ho, v1, v2, eqGuard, binOp, Op.intArith, Op.intCmp], .bool _, k⟩
    case neq => simp only [binI] at k; exact ⟨.bool (n1 != n2), .bool (n1 != n2), by simp [execOp, ho, v1, v2, eqGuard, binOp, Op.intArith, Op.intCmp], .bool _, k⟩
    case lss => simp only [binI] at k; exact ⟨.bool (decide (n1 < n2)), .bool (decide (n1 < n2)), by simp [execOp, ho, v1, v2, eqGuard, binOp, Op.intArith, Op.intCmp], .bool _, k⟩
    case leq => simp only [binI] at k; exact ⟨.bool (decide (n1 ≤ n2)), .bool (decide (n1 ≤ n2)), by simp [execOp, ho, v1, v2, eqGuard, binOp, Op.intArith, Op.intCmp], .bool _, k⟩
    case gtr => simp only [binI] at k; exact ⟨.bool (decide (n1 > n2)), .bool (decide (n1 > n2)), by simp [execOp, ho, v1, v2, eqGuard, binOp, Op.intArith, Op.intCmp], .bool _, k⟩
    case geq => simp only [binI] at k; exact ⟨.bool (decide (n1 ≥ n2)), .bool (decide (n1 ≥ n2)), by simp [execOp, ho, v1, v2, eqGuard, binOp, Op.intArith, Op.intCmp], .bool _, k⟩
    case quo => simp only [binI] at k; exact ⟨.int k1 (k1.wrap (n1.tdiv n2)), .int k1 (k1.wrap (n1.tdiv n2)), by simp [execOp, ho, v1, v2, eqGuard, binOp, Op.intDiv, k.1], .int _ _, k.2⟩
    case rem => simp only [binI] at k; exact ⟨.int k1 (n1.tmod n2), .int k1 (n1.tmod n2), by simp [execOp, ho, v1, v2, eqGuard, binOp, Op.intDiv, k.1], .int _ _, k.2⟩
    all_goals exact k.elim
  · rename_i l1 l2 e1 e2
    have h1 := r.opd hx; rw [e1] at h1; have v1 := h1.str_inv
    have h2 := r.opd hy; rw [e2] at h2; have v2 := h2.str_inv
    cases op
    case eql => simp only [binS] at k; exact ⟨.bool (l1 == l2), .bool (l1 == l2), by simp [execOp, ho, v1, v2, eqGuard, binOp, Op.stringOp, bne], .bool _, k⟩
    case neq => simp only [binS] at k; exact ⟨.bool (l1 != l2), .bool (l1 != l2), by simp [execOp, ho, v1, v2, eqGuard, binOp, Op.stringOp, bne], .bool _, k⟩
    case lss => simp only [binS] at k; exact ⟨.bool (Op.bytesLess l1 l2), .bool (Op.bytesLess l1 l2), by simp [execOp, ho, v1, v2, eqGuard, binOp, Op.stringOp, bne], .bool _, k⟩
    case leq => simp only [binS] at k; exact ⟨.bool (Op.bytesLess l1 l2 || l1 == l2), .bool (Op.bytesLess l1 l2 || l1 == l2), by simp [execOp, ho, v1, v2, eqGuard, binOp, Op.stringOp, bne], .bool _, k⟩
    case gtr => simp only [binS] at k; exact ⟨.bool (!(Op.bytesLess l1 l2 || l1 == l2)), .bool (!(Op.bytesLess l1 l2 || l1 == l2)), by simp [execOp, ho, v1, v2, eqGuard, binOp, Op.stringOp, bne], .bool _, k⟩
    case geq => simp only [binS] at k; exact ⟨.bool (!Op.bytesLess l1 l2), .bool (!Op.bytesLess l1 l2), by simp [execOp, ho, v1, v2, eqGuard, binOp, Op.stringOp, bne], .bool _, k⟩
    case add => 
      simp only [binS] at k
      refine ⟨_, .string ⟨(l1 ++ l2).toArray⟩, ?_, .str _, k.2⟩
      have hle : ¬ ((((⟨l1.toArray⟩ : ByteArray).size + (⟨l2.toArray⟩ : ByteArray).size : Nat) : Int) > IntKind.i64.max) := by
        have : IntKind.i64.max = 9223372036854775807 := rfl
        rw [this]
        have := k.1
        show ¬ (((l1.toArray.size + l2.toArray.size : Nat) : Int) > _)
        simp only [List.size_toArray]
        omega
      have hcat : (⟨l1.toArray⟩ : ByteArray) ++ ⟨l2.toArray⟩ = ⟨(l1 ++ l2).toArray⟩ := by
        apply ByteArray.ext
        simp
      have hso : Op.stringOp .add ⟨l1.toArray⟩ ⟨l2.toArray⟩ = pure (.string ⟨(l1 ++ l2).toArray⟩) := by
        unfold Op.stringOp
        simp only []
        rw [if_neg hle, hcat]
      simp [execOp, ho, v1, v2, eqGuard, binOp, hso]
    all_goals exact k.elim
  · exact k.elim

omit [Glob] in
theorem run_equal_bool {t : TypeId} (ht : P.underlying t = some .bool) (b1 b2 : Bool) : (Op.equal t (.bool b1) (.bool b2)).run P w = .ok (b1 == b2) w := by
  have : ∀ d, (Op.equalIn (d + 1) t (.bool b1) (.bool b2)).run P w = .ok (b1 == b2) w := fun d => by simp [Op.equalIn, run_underlying ht]
  exact this 9999
omit [Glob] in
theorem size_mk (l : List UInt8) : (⟨l.toArray⟩ : ByteArray).size = l.length := by
  show l.toArray.size = _
  simp

theorem y_binB {op : BinOp} {t t' : TypeId} {x y : Operand} {x' y' : Opd} (ht : P.underlying t = some .bool) (ho : o.op = .binOp op t x y t') (hx : compO x = some x') (hy : compO y = some y') (r : StRel X lw w a bs s) (k : aval s.h s.tm (.binB op x' y') K) : Yields P X a w s.h bs o K := by
  simp only [aval] at k
  split at k
  · rename_i b1 b2 e1 e2
    have h1 := r.opd hx; rw [e1] at h1; have v1 := h1.bool_inv
    have h2 := r.opd hy; rw [e2] at h2; have v2 := h2.bool_inv
    exact ⟨_, .bool (b1 == b2), by simp [execOp, ho, v1, v2, eqGuard, binOp, run_equal_bool ht], .bool _, k⟩
  · rename_i b1 b2 e1 e2
    have h1 := r.opd hx; rw [e1] at h1; have v1 := h1.bool_inv
    have h2 := r.opd hy; rw [e2] at h2; have v2 := h2.bool_inv
    exact ⟨_, .bool (b1 != b2), by simp [execOp, ho, v1, v2, eqGuard, binOp, run_equal_bool ht, bne], .bool _, k⟩
  · exact k.elim

theorem y_un {op : UnOp} {t : TypeId} {x : Operand} {x' : Opd} (ho : o.op = .unOp op t x) (hx : compO x = some x') (r : StRel X lw w a bs s) (k : aval s.h s.tm (.un op x') K) : Yields P X a w s.h bs o K := by
  simp only [aval] at k
  split at k
  · rename_i b e
    have h1 := r.opd hx; rw [e] at h1; have v1 := h1.bool_inv
    exact ⟨_, .bool (!b), by simp [execOp, ho, v1, Op.unary], .bool _, k⟩
  · rename_i k1 n e
    have h1 := r.opd hx; rw [e] at h1; have v1 := h1.int_inv
    exact ⟨_, .int k1 (k1.wrap (0 - n)), by simp [execOp, ho, v1, Op.unary, Op.intArith], .int _ _, k⟩
  · exact k.elim

theorem y_cint {src dst : TypeId} {d : TypeDesc} {kd : IntKind} {x : Operand} {x' : Opd} (hs : P.underlying src = some d) (hd : P.underlying dst = some (.int kd)) (ho : o.op = .convert src dst x) (hx : compO x = some x') (r : StRel X lw w a bs s) (k : aval s.h s.tm (.cint kd x') K) : Yields P X a w s.h bs o K := by
  simp only [aval] at k
  split at k
  · rename_i k1 n e
    have h1 := r.opd hx; rw [e] at h1; have v1 := h1.int_inv
    exact ⟨_, .int kd (kd.wrap n), by simp [execOp, ho, v1, convert, run_underlying hs, run_underlying hd, Conv.intToInt], .int _ _, k⟩
  · exact k.elim

theorem y_cstr {src dst : TypeId} {x : Operand} {x' : Opd} (hs : P.underlying src = some .string) (hd : P.underlying dst = some .string) (ho : o.op = .convert src dst x) (hx : compO x = some x') (r : StRel X lw w a bs s) (k : aval s.h s.tm (.cstr x') K) : Yields P X a w s.h bs o K := by
  simp only [aval] at k
  split at k
  · rename_i l e
    have h1 := r.opd hx; rw [e] at h1; have v1 := h1.str_inv
    exact ⟨_, .string ⟨l.toArray⟩, by simp [execOp, ho, v1, convert, run_underlying hs, run_underlying hd], .str _, k⟩
  · exact k.elim

theorem y_ext {x : Operand} {x' : Opd} {i : Nat} (ho : o.op = .extract x i) (hx : compO x = some x') (r : StRel X lw w a bs s) (k : aval s.h s.tm (.ext x' i) K) : Yields P X a w s.h bs o K := by
  simp only [aval] at k
  split at k
  · rename_i l e
    have h1 := r.opd hx; rw [e] at h1
    split at k
    · rename_i v e2
      generalize hv : a.eval x = xv at h1
      cases h1 with
      | tup _ cs hl hrep =>
        have hi : i < cs.size := by rw [hl]; exact (List.getElem?_eq_some_iff.1 e2).1
        exact ⟨v, cs[i], by simp [execOp, ho, hv, Instr.extract, Array.getElem?_eq_getElem hi], hrep i v cs[i] e2 (Array.getElem?_eq_getElem hi), k⟩
    · exact k.elim
  · exact k.elim

omit [Glob] in
theorem run_len_str {t ty : TypeId} (ht : P.underlying t = some .string) (l : List UInt8) : (Builtin.len_ #[t] ty #[.string ⟨l.toArray⟩]).run P w = .ok (.int .i64 l.length) w := by
  have : (Builtin.len_ #[t] ty #[.string ⟨l.toArray⟩]).run P w = .ok (goInt (⟨l.toArray⟩ : ByteArray).size) w := by
    simp only [Builtin.len_]
    simp [run_underlying ht]
  rw [this, size_mk]; rfl
theorem y_lenS {x : Operand} {x' : Opd} {t : TypeId} (ht : P.underlying t = some .string) (ho : o.op = .call { callee := .builtin .len, args := #[x], argTypes := #[t] }) (hx : compO x = some x') (r : StRel X lw w a bs s) (k : aval s.h s.tm (.lenS x') K) : Yields P X a w s.h bs o K := by
  simp only [aval] at k
  split at k
  · rename_i l e
    have h1 := r.opd hx; rw [e] at h1; have v1 := h1.str_inv
    exact ⟨_, .int .i64 l.length, by simp [execOp, ho, v1, resolve, invoke, builtin, run_len_str ht], .int _ _, k⟩
  · exact k.elim

omit [Glob] in
theorem run_len_sl {t ty e : TypeId} (ht : P.underlying t = some (.slice e)) (A : Option Addr) (n c : Nat) : (Builtin.len_ #[t] ty #[.slice A n c]).run P w = .ok (.int .i64 n) w := by
  simp [Builtin.len_, run_underlying ht, goInt]

omit [Glob] in
theorem bytesA_spec {h : List AObj} {vs : Nat → Value} : ∀ {xs : List AV} {l : List UInt8}, bytesA xs = some l → (∀ (j : Nat) (x : AV), xs[j]? = some x → Rep X w h bs x (vs j)) → ∃ zs : List Int, zs.length = xs.length ∧ (∀ i, i < zs.length → vs i = .int .u8 (zs.getD i 0)) ∧ zs.map (fun z => UInt8.ofNat z.toNat) = l
  | [], l, e, hr => by cases e; exact ⟨[], rfl, by simp, rfl⟩
  | x :: r, l, e, hr => by
    obtain ⟨n, rfl⟩ : ∃ n, x = .int .u8 n := by
      cases x with
      | int k n => cases k with
        | u8 => exact ⟨n, rfl⟩
        | _ => cases e
      | _ => cases e
    simp only [bytesA] at e
    cases hb : bytesA r with
    | none => rw [hb] at e; cases e
    | some l2 =>
      rw [hb] at e; cases e
      obtain ⟨zs, h1, h2, h3⟩ := bytesA_spec (vs := fun j => vs (j + 1)) hb (fun j x e => hr (j + 1) x (by simpa using e))
      refine ⟨n :: zs, by simp [h1], fun i hi => ?_, by simp [h3]⟩
      cases i with
      | zero => have := hr 0 (.int .u8 n) rfl; have := this.int_inv; simpa using this
      | succ i => have := h2 i (by simpa using hi); simpa using this
theorem y_bstr {src dst e : TypeId} {x : Operand} {x' : Opd} (hs : P.underlying src = some (.slice e)) (he : P.underlying e = some (.int .u8)) (hd : P.underlying dst = some .string) (ho : o.op = .convert src dst x) (hx : compO x = some x') (r : StRel X lw w a bs s) (k : aval s.h s.tm (.bstr x') K) : Yields P X a w s.h bs o K := by
  simp only [aval] at k
  split at k
  · rename_i sz xs e1
    have h1 := r.opd hx; rw [e1] at h1
    obtain ⟨⟨rfl, hne⟩, k⟩ := k
    generalize hv : a.eval x = v at h1
    cases h1 with
    | slE => exact absurd rfl hne
    | sl _ _ b off c vs _ hp hc hm hlt hX hb hsz hcell hrep =>
      split at k
      · rename_i l hl
        have one : ∀ (j : Nat) (y : AV), xs[j]? = some y → y.cells[0]? = some y := by
          intro j y e
          have := (hsz y (List.mem_of_getElem? e)).1
          have hby : ∀ {xs : List AV} {l : List UInt8}, bytesA xs = some l → ∀ y ∈ xs, ∃ n, y = .int .u8 n := by
            intro xs
            induction xs with
            | nil => intro l _ y hy; cases hy
            | cons x r ih =>
              intro l e y hy
              obtain ⟨n, rfl⟩ : ∃ n, x = .int .u8 n := by
                cases x with
                | int k n => cases k with
                  | u8 => exact ⟨n, rfl⟩
                  | _ => cases e
                | _ => cases e
              simp only [bytesA] at e
              cases hb : bytesA r with
              | none => rw [hb] at e; cases e
              | some l2 =>
                rcases List.mem_cons.1 hy with rfl | hy
                · exact ⟨_, rfl⟩
                · exact ih hb y hy
          obtain ⟨n, rfl⟩ := hby hl y (List.mem_of_getElem? e)
          rfl
        obtain ⟨zs, z1, z2, z3⟩ := bytesA_spec (vs := fun j => vs j 0) hl (fun j y e => hrep j y 0 y e (one j y e))
        have run := run_convert_bytes_arg (P := P) w src e hs he b off xs.length c zs z1 (fun i hi => by
          have := hcell i xs[i] 0 xs[i] (List.getElem?_eq_getElem hi) (one i _ (List.getElem?_eq_getElem hi))
          rw [show off + i = off + (i * 1 + 0) by omega, this, ← z2 i (by omega)]) dst hd
        refine ⟨_, .string (strOfNums zs), by simp [execOp, ho, hv, run], ?_, k⟩
        have : strOfNums zs = ⟨l.toArray⟩ := by
          rw [← z3]; simp [strOfNums]
        rw [this]; exact .str _
      · exact k.elim
  · exact k.elim
theorem y_mx {g : Bool} {x y : Operand} {x' y' : Opd} {ts : Array TypeId} (ho : o.op = .call { callee := .builtin (if g then .max else .min), args := #[x, y], argTypes := ts }) (hx : compO x = some x') (hy : compO y = some y') (r : StRel X lw w a bs s) (k : aval s.h s.tm (.mx g x' y') K) : Yields P X a w s.h bs o K := by
  simp only [aval] at k
  split at k
  · rename_i k1 m k2 n e1 e2
    have h1 := r.opd hx; rw [e1] at h1; have v1 := h1.int_inv
    have h2 := r.opd hy; rw [e2] at h2; have v2 := h2.int_inv
    obtain ⟨rfl, k⟩ := k
    cases g with
    | true => exact ⟨_, .int k1 (if n > m then n else m), by simp [execOp, ho, v1, v2, resolve, invoke, builtin, run_max_int2], .int _ _, k⟩
    | false => exact ⟨_, .int k1 (if n < m then n else m), by simp [execOp, ho, v1, v2, resolve, invoke, builtin, run_min_int2], .int _ _, k⟩
  · exact k.elim
theorem y_lenL {x : Operand} {x' : Opd} {t e : TypeId} (ht : P.underlying t = some (.slice e)) (ho : o.op = .call { callee := .builtin .len, args := #[x], argTypes := #[t] }) (hx : compO x = some x') (r : StRel X lw w a bs s) (k : aval s.h s.tm (.lenL x') K) : Yields P X a w s.h bs o K := by
  simp only [aval] at k
  have go : ∀ (A : Option Addr) (n c : Nat), a.eval x = .slice A n c → K (.int .i64 n) → Yields P X a w s.h bs o K := fun A n c hv hk =>
    ⟨_, .int .i64 n, by simp [execOp, ho, hv, resolve, invoke, builtin, run_len_sl ht], .int _ _, hk⟩
  have h1 := r.opd hx
  generalize hv : a.eval x = xv at h1
  split at k
  · rename_i sz xs e; rw [e] at h1
    cases h1 with
    | slE _ A c => exact go A 0 c hv k
    | sl _ _ b off c vs => exact go _ _ c hv k
  · rename_i ob ver off n e; rw [e] at h1
    split at k
    · rename_i obj e2
      cases h1 with
      | oslN _ _ ob' hob => exact go _ _ _ hv k.2
      | osl _ _ _ _ c ob' b C hob => exact go _ _ _ hv k.2
      | oslE _ _ _ ob' hob => exact go _ _ _ hv k.2
      | oslS _ _ _ _ ob' hob hlt => rw [e2] at hob; cases hob; have := k.1; omega
    · exact k.elim
  · rename_i e; rw [e] at h1
    cases h1
    exact go _ 0 _ hv k
  · exact k.elim

theorem y_mkf {f : FuncId} {l : Array Operand} {m : List Opd} (ho : o.op = .makeFunc (.func f) #[] l) (hx : compOs l.toList = some m) (r : StRel X lw w a bs s) (k : aval s.h s.tm (.mkf f m) K) : Yields P X a w s.h bs o K := by
  obtain ⟨p, q⟩ := r.opds hx
  refine ⟨_, .func (.func f) #[] (l.map a.eval), by simp [execOp, ho, Instr.makeFunc], .fn f _ _ ?_ ?_, k⟩
  · simpa using p
  · intro j x v e1 e2
    exact q j x v e1 (by simpa using e2)

theorem y_mki {t : TypeId} {d : TypeDesc} {x : Operand} {x' : Opd} (ht : P.underlying t = some d) (hd : ∀ ms, d ≠ .interface ms) (ho : o.op = .makeInterface t x) (hx : compO x = some x') (r : StRel X lw w a bs s) (k : aval s.h s.tm (.mki t x') K) : Yields P X a w s.h bs o K := by
  refine ⟨_, .iface t (a.eval x), ?_, .iface t _ _ (r.opd hx), k⟩
  simp only [execOp, ho, Instr.makeInterface, Sem.run_bind, run_underlying ht, Result.andThen_ok]
  cases d <;> first | (exact absurd rfl (hd _)) | rfl

theorem y_nck {x : Operand} {x' : Opd} (ho : o.op = .nilCheck x) (hx : compO x = some x') (r : StRel X lw w a bs s) (k : aval s.h s.tm (.nck x') K) : Yields P X a w s.h bs o K := by
  simp only [aval] at k
  have h1 := r.opd hx
  generalize hv : a.eval x = xv at h1
  split at k
  · rename_i ob ver i j e; rw [e] at h1
    split at k
    · rename_i obj e2
      cases h1 with
      | ptr _ _ _ _ ob' b hob hv' hb => exact ⟨_, _, by simp [execOp, ho, hv], .ptr ob ver i j ob' b hob hv' hb, k.2⟩
      | ptrS _ _ _ _ ob' hob hlt => rw [e2] at hob; cases hob; have := k.1; omega
    · exact k.elim
  · rename_i xs e; rw [e] at h1
    cases h1 with
    | rp _ b off vs hp hlt hX hb hone hcell hrep => exact ⟨_, _, by simp [execOp, ho, hv], .rp xs b off vs hp hlt hX hb hone hcell hrep, k⟩
  · exact k.elim

theorem y_idx {t : TypeId} {x i : Operand} {x' i' : Opd} (ht : P.underlying t = some .string) (ho : o.op = .index t x i) (hx : compO x = some x') (hi : compO i = some i') (r : StRel X lw w a bs s) (k : aval s.h s.tm (.idx x' i') K) : Yields P X a w s.h bs o K := by
  simp only [aval] at k
  split at k
  · rename_i l k1 n e1 e2
    have h1 := r.opd hx; rw [e1] at h1; have v1 := h1.str_inv
    have h2 := r.opd hi; rw [e2] at h2; have v2 := h2.int_inv
    obtain ⟨⟨hn0, hn1⟩, k⟩ := k
    have hlt : n.toNat < l.length := by omega
    refine ⟨_, .int .u8 (l.getD n.toNat 0).toNat, ?_, .int _ _, k⟩
    have hg : (⟨l.toArray⟩ : ByteArray)[n.toNat]? = some (l.getD n.toNat 0) := by
      have hs : n.toNat < (⟨l.toArray⟩ : ByteArray).size := by simpa [ByteArray.size] using hlt
      rw [getElem?_pos (⟨l.toArray⟩ : ByteArray) n.toNat hs]
      congr 1
      show l.toArray[n.toNat]'_ = _
      simp [List.getD, List.getElem?_eq_getElem hlt]
    simp [execOp, ho, v1, v2, Instr.index, asIntOf, run_underlying ht, hn0, hg]
  · exact k.elim

omit [Glob] in
/-- Cells that stand for some values, read as one. -/
theorem run_loadVar_cells {t : TypeId} {ag : Bool} {n : Nat} (ht : agOf P t = some (ag, n)) {h : List AObj} (b off : Nat) (ys : List AV) (vs : Nat → Value) (hn : n ≤ ys.length)
    (hc : ∀ (j : Nat) (y : AV), ys[j]? = some y → w.cell? ⟨b, off + j, none⟩ = some (vs j) ∧ Rep X w h bs y (vs j)) :
    ∃ x, (loadVar t ⟨b, off, none⟩).run P w = .ok x w ∧ Rep X w h bs (mkv ag (ys.take n)) x := by
  have hcell : ∀ j, j < n → w.cell? ⟨b, off + j, none⟩ = some (vs j) := fun j hj => (hc j _ (List.getElem?_eq_getElem (by omega))).1
  unfold agOf at ht
  have hagg : ∀ (inf : TypeInfo), P.info? t = some inf → inf.size = n → (isAgg t).run P w = .ok true w → ag = true →
      ∃ x, (loadVar t ⟨b, off, none⟩).run P w = .ok x w ∧ Rep X w h bs (mkv ag (ys.take n)) x := by
    intro inf hi hs hag hagt
    subst hagt
    have hl := run_loadCells (P := P) w ⟨b, off, none⟩ n vs (fun j hj => by rw [Addr.add_lit]; exact hcell j hj)
    refine ⟨.agg ((List.range n).map vs).toArray, ?_, ?_⟩
    · simp [loadVar, hag, sizeOf, typeInfo, hi, hs, hl]
    · simp only [mkv, if_true]
      refine .agg _ _ (by simp; omega) (fun j x v e1 e2 => ?_)
      rw [List.getElem?_take] at e1
      split at e1
      · rename_i hj
        simp only [List.getElem?_toArray, List.getElem?_map, List.getElem?_range hj, Option.map_some, Option.some.injEq] at e2
        subst e2
        exact (hc j x e1).2
      · cases e1
  split at ht
  · rename_i fs hu
    cases hi : P.info? t with
    | none => rw [hi] at ht; cases ht
    | some inf =>
      rw [hi] at ht
      simp only [Option.map_some, Option.some.injEq, Prod.mk.injEq] at ht
      exact hagg inf hi ht.2 (by simp [isAgg, run_underlying hu]) ht.1.symm
  · rename_i k e hu
    cases hi : P.info? t with
    | none => rw [hi] at ht; cases ht
    | some inf =>
      rw [hi] at ht
      simp only [Option.map_some, Option.some.injEq, Prod.mk.injEq] at ht
      exact hagg inf hi ht.2 (by simp [isAgg, run_underlying hu]) ht.1.symm
  · rename_i d h1 h2 hu
    cases ht
    have hag : (isAgg t).run P w = .ok false w := by
      simp only [isAgg, Sem.run_bind, run_underlying hu, Result.andThen_ok]
      cases d <;> first | rfl | exact (h1 _ rfl).elim | exact (h2 _ _ rfl).elim
    cases ys with
    | nil => simp at hn
    | cons y r =>
      have h0 := hc 0 y rfl
      refine ⟨vs 0, ?_, by simpa [mkv] using h0.2⟩
      have := h0.1
      simp only [Nat.add_zero] at this
      simp [loadVar, hag, run_load, this]
  · cases ht

theorem y_load {t : TypeId} {ag : Bool} {n : Nat} {x : Operand} {x' : Opd} (ht : agOf P t = some (ag, n)) (ho : o.op = .load t x) (hx : compO x = some x') (r : StRel X lw w a bs s) (k : aval s.h s.tm (.load ag n x') K) : Yields P X a w s.h bs o K := by
  simp only [aval] at k
  have h1 := r.opd hx
  generalize hv : a.eval x = xv at h1
  have fin : ∀ (b off : Nat) (z : AV), xv = .pointer (some ⟨b, off, none⟩) → (∃ y, (loadVar t ⟨b, off, none⟩).run P w = .ok y w ∧ Rep X w s.h bs z y) → K z → Yields P X a w s.h bs o K := by
    rintro b off z rfl ⟨y, hy, hr⟩ hk
    exact ⟨z, y, by simp [execOp, ho, hv, Instr.loadAt, Instr.sureAddr, hy], hr, hk⟩
  split at k
  · rename_i oi ver i j e; rw [e] at h1
    split at k
    · rename_i ob e2
      split at k
      · rename_i y e3
        obtain ⟨⟨hver, hle⟩, k⟩ := k
        cases h1 with
        | ptr _ _ _ _ ob' b hob hv' hb =>
          rw [e2] at hob; cases hob
          obtain ⟨C, hC, hs, hx⟩ := r.heap.lies oi ob b e2 hb
          have hl := (r.heap.shape ob (List.mem_of_getElem? e2) y (List.mem_of_getElem? e3)).1
          refine fin b _ _ rfl (run_loadVar_cells ht b _ (y.cells.drop j) (fun q => (C[i * ob.sz + (j + q)]?).getD undef) (by rw [List.length_drop]; omega) (fun q z hq => ?_)) k
          rw [List.getElem?_drop] at hq
          obtain ⟨u, g1, g2⟩ := hx i y (j + q) z e3 hq
          rw [g1]
          refine ⟨?_, g2⟩
          simp only [World.cell?, hC]
          rw [Option.getD_some, ← g1, Nat.add_assoc]
          rfl
        | ptrS _ _ _ _ ob' hob hlt => rw [e2] at hob; cases hob; omega
      · exact k.2.elim
    · exact k.elim
  · rename_i xs e; rw [e] at h1
    cases h1 with
    | rp _ b off vs hp hlt hX hb hone hcell hrep =>
      exact fin b _ _ rfl (run_loadVar_cells ht b off xs vs k.1 (fun q z hq => ⟨hcell q z hq, hrep q z hq⟩)) k.2
  · exact k.elim

theorem y_fad {t : TypeId} {fs : Array Field} {f : Nat} {fd : Field} {inf : TypeInfo} {x : Operand} {x' : Opd} (ht : P.underlying t = some (.struct fs)) (hf : fs[f]? = some fd) (hi : P.info? fd.type = some inf) (hs : inf.size ≠ 0)
    (ho : o.op = .fieldAddr t x f) (hx : compO x = some x') (r : StRel X lw w a bs s) (k : aval s.h s.tm (.fad fd.offset x') K) : Yields P X a w s.h bs o K := by
  simp only [aval] at k
  have h1 := r.opd hx
  generalize hv : a.eval x = xv at h1
  have fin : ∀ (b off : Nat) (z : AV), xv = .pointer (some ⟨b, off, none⟩) → Rep X w s.h bs z (.pointer (some ⟨b, off + fd.offset, none⟩)) → K z → Yields P X a w s.h bs o K := by
    rintro b off z rfl hr hk
    exact ⟨z, _, by simp [execOp, ho, hv, Instr.fieldAt, Instr.sureAddr, run_underlying ht, hf, fieldPlace, sizeOf, typeInfo, hi, hs, Addr.add_lit], hr, hk⟩
  split at k
  · rename_i oi ver i j e; rw [e] at h1
    split at k
    · rename_i ob e2
      obtain ⟨hver, k⟩ := k
      cases h1 with
      | ptr _ _ _ _ ob' b hob hv' hb =>
        refine fin b _ _ rfl ?_ k
        rw [Nat.add_assoc]
        exact .ptr oi ver i _ ob' b hob hv' hb
      | ptrS _ _ _ _ ob' hob hlt => rw [e2] at hob; cases hob; omega
    · exact k.elim
  · rename_i xs e; rw [e] at h1
    cases h1 with
    | rp _ b off vs hp hlt hX hb hone hcell hrep =>
      refine fin b off _ rfl ?_ k
      refine .rp (xs.drop fd.offset) b (off + fd.offset) (fun q => vs (fd.offset + q)) (pureL_iff.2 fun y hy => pureL_iff.1 hp y (List.mem_of_mem_drop hy)) hlt hX hb (fun y hy => hone y (List.mem_of_mem_drop hy)) (fun q y e => ?_) (fun q y e => ?_)
      · rw [List.getElem?_drop] at e; rw [Nat.add_assoc]; exact hcell _ y e
      · rw [List.getElem?_drop] at e; exact hrep _ y e
  · exact k.elim

omit [Glob] in
theorem Rep.elem {h : List AObj} {sz : Nat} {xs : List AV} {b off : Nat} {vs : Nat → Nat → Value} (hp : pureL xs = true) (hlt : b < w.heap.size) (hX : ¬ X.own b) (hb : some b ∉ bs) (hsz : ∀ x ∈ xs, x.cells.length = sz ∧ ∀ y ∈ x.cells, y.one = true)
    (hcell : ∀ (j : Nat) (x : AV) (k : Nat) (y : AV), xs[j]? = some x → x.cells[k]? = some y → w.cell? ⟨b, off + (j * sz + k), none⟩ = some (vs j k))
    (hrep : ∀ (j : Nat) (x : AV) (k : Nat) (y : AV), xs[j]? = some x → x.cells[k]? = some y → Rep X w h bs y (vs j k)) (j : Nat) (x : AV) (hj : xs[j]? = some x) :
    Rep X w h bs (.rp x.cells) (.pointer (some ⟨b, off + j * sz, none⟩)) := by
  have hm := List.mem_of_getElem? hj
  refine .rp x.cells b (off + j * sz) (vs j) ?_ hlt hX hb (hsz x hm).2 (fun k y e => ?_) (fun k y e => hrep j x k y hj e)
  · have := pureL_iff.1 hp x hm
    cases x with
    | agg l => simpa [AV.cells, AV.pure] using this
    | _ => simpa [AV.cells, pureL] using this
  · rw [Nat.add_assoc]; exact hcell j x k y hj e

theorem y_iad {t e : TypeId} {inf : TypeInfo} {x i : Operand} {x' i' : Opd} (ht : P.underlying t = some (.slice e)) (hi : P.info? e = some inf) (ho : o.op = .indexAddr t x i) (hx : compO x = some x') (hi' : compO i = some i') (r : StRel X lw w a bs s) (k : aval s.h s.tm (.iad inf.size x' i') K) : Yields P X a w s.h bs o K := by
  simp only [aval] at k
  have h1 := r.opd hx
  have h2 := r.opd hi'
  generalize hv : a.eval x = xv at h1
  have fin : ∀ (b off len c : Nat) (k1 : IntKind) (n : Int) (z : AV), xv = .slice (some ⟨b, off, none⟩) len c → a.eval i = .int k1 n → 0 ≤ n → n < len → Rep X w s.h bs z (.pointer (some ⟨b, off + n.toNat * inf.size, none⟩)) → K z → Yields P X a w s.h bs o K := by
    rintro b off len c k1 n z rfl hn h0 hlt hr hk
    exact ⟨z, _, by simp [execOp, ho, hv, hn, Instr.indexAt, asIntOf, run_underlying ht, sizeOf, typeInfo, hi, h0, hlt, Addr.add_lit], hr, hk⟩
  split at k
  · rename_i sz xs k1 n e1 e2; rw [e1] at h1; rw [e2] at h2
    have vn := h2.int_inv
    obtain ⟨⟨hsz', h0, hlt'⟩, k⟩ := k
    subst hsz'
    cases h1 with
    | slE => simp at hlt'; omega
    | sl _ _ b off c vs hne hp hc hm hlt hX hb hsz hcell hrep =>
      have hj : n.toNat < xs.length := by omega
      have hg : xs[n.toNat]? = some (xs.getD n.toNat .any) := by rw [List.getElem?_eq_getElem hj]; simp [List.getD, List.getElem?_eq_getElem hj]
      exact fin b off _ c k1 n _ rfl vn h0 hlt' (Rep.elem hp hlt hX hb hsz hcell hrep n.toNat _ hg) k
  · rename_i oi ver off len k1 n e1 e2; rw [e1] at h1; rw [e2] at h2
    have vn := h2.int_inv
    split at k
    · rename_i ob e3
      obtain ⟨⟨hver, hs, h0, hlt⟩, k⟩ := k
      cases h1 with
      | oslN => simp at hlt; omega
      | osl _ _ _ _ c ob' b C hob hv' hb hlen hlc hcm hC hcap =>
        rw [e3] at hob; cases hob
        refine fin b _ len c k1 n _ rfl vn h0 hlt ?_ k
        have : off * ob.sz + n.toNat * inf.size = (off + n.toNat) * ob.sz + 0 := by rw [← hs, Nat.add_mul]; rfl
        rw [this]
        exact .ptr oi ver _ 0 ob b e3 hv' hb
      | oslE => simp at hlt; omega
      | oslS _ _ _ _ ob' hob hlt => rw [e3] at hob; cases hob; omega
    · exact k.elim
  · exact k.elim

theorem y_fld {t : TypeId} {fs : Array Field} {f : Nat} {fd : Field} {ag : Bool} {n : Nat} {x : Operand} {x' : Opd} (ht : P.underlying t = some (.struct fs)) (hf : fs[f]? = some fd) (hag : agOf P fd.type = some (ag, n))
    (ho : o.op = .field t x f) (hx : compO x = some x') (r : StRel X lw w a bs s) (k : aval s.h s.tm (.fld ag fd.offset n x') K) : Yields P X a w s.h bs o K := by
  simp only [aval] at k
  have h1 := r.opd hx
  generalize hv : a.eval x = xv at h1
  split at k
  · rename_i l e; rw [e] at h1
    obtain ⟨hle, k⟩ := k
    cases h1 with
    | agg _ cs hl hrep =>
      have hpart : ∃ z, (part fd.type cs fd.offset).run P w = .ok z w ∧ Rep X w s.h bs (mkv ag ((l.drop fd.offset).take n)) z := by
        unfold agOf at hag
        have hagg : ∀ (inf : TypeInfo), P.info? fd.type = some inf → inf.size = n → (isAgg fd.type).run P w = .ok true w → ag = true → ∃ z, (part fd.type cs fd.offset).run P w = .ok z w ∧ Rep X w s.h bs (mkv ag ((l.drop fd.offset).take n)) z := by
          intro inf hi hs hisa hagt
          subst hagt
          refine ⟨.agg (cs.extract fd.offset (fd.offset + n)), by simp [part, hisa, sizeOf, typeInfo, hi, hs], ?_⟩
          simp only [mkv, if_true]
          refine .agg _ _ (by simp; omega) (fun j y v e1 e2 => ?_)
          rw [List.getElem?_take] at e1
          split at e1
          · rename_i hj
            rw [List.getElem?_drop] at e1
            rw [Array.getElem?_extract] at e2
            split at e2
            · exact hrep _ y v e1 e2
            · cases e2
          · cases e1
        split at hag
        · rename_i fs' hu
          cases hi : P.info? fd.type with
          | none => rw [hi] at hag; cases hag
          | some inf =>
            rw [hi] at hag
            simp only [Option.map_some, Option.some.injEq, Prod.mk.injEq] at hag
            exact hagg inf hi hag.2 (by simp [isAgg, run_underlying hu]) hag.1.symm
        · rename_i k' e' hu
          cases hi : P.info? fd.type with
          | none => rw [hi] at hag; cases hag
          | some inf =>
            rw [hi] at hag
            simp only [Option.map_some, Option.some.injEq, Prod.mk.injEq] at hag
            exact hagg inf hi hag.2 (by simp [isAgg, run_underlying hu]) hag.1.symm
        · rename_i d h1 h2 hu
          cases hag
          have hisa : (isAgg fd.type).run P w = .ok false w := by
            simp only [isAgg, Sem.run_bind, run_underlying hu, Result.andThen_ok]
            cases d <;> first | rfl | exact (h1 _ rfl).elim | exact (h2 _ _ rfl).elim
          have hlt : fd.offset < l.length := by omega
          have hlt' : fd.offset < cs.size := by omega
          refine ⟨cs[fd.offset], by simp [part, hisa, Array.getElem?_eq_getElem hlt'], ?_⟩
          have : mkv false ((l.drop fd.offset).take 1) = l[fd.offset] := by
            rw [List.drop_eq_getElem_cons hlt]; rfl
          rw [this]
          exact hrep fd.offset _ _ (List.getElem?_eq_getElem hlt) (Array.getElem?_eq_getElem hlt')
        · cases hag
      obtain ⟨z, hz, hr⟩ := hpart
      exact ⟨_, z, by simp [execOp, ho, hv, Instr.field, run_underlying ht, hf, asAgg, hz], hr, k⟩
  · exact k.elim

omit [Glob] in
theorem run_sliceBound {v : Value} {k1 : IntKind} {n : Int} (hv : v = .int k1 n) (y : Nat) (code : BoundsCode) (h0 : 0 ≤ n) (h1 : n ≤ y) : (Instr.sliceBound v y code).run P w = .ok n.toNat w := by
  subst hv
  simp [Instr.sliceBound, asIntOf, h0, h1]

/-- The bounds of a cut, out of what they stand for. -/
theorem bound_run {b : Option Operand} {b' : Option Opd} {d : Int} {K : Int → Prop} (hb : compB b = some b') (r : StRel X lw w a bs s) (k : bound s.tm d b' K) :
    (b = none ∧ K d) ∨ ∃ (x : Operand) (k1 : IntKind) (n : Int), b = some x ∧ a.eval x = .int k1 n ∧ K n := by
  cases b with
  | none => cases hb; exact .inl ⟨rfl, k⟩
  | some x =>
    simp only [compB] at hb
    cases hx : compO x with
    | none => rw [hx] at hb; cases hb
    | some y =>
      rw [hx] at hb
      cases hb
      simp only [bound] at k
      split at k
      · rename_i k1 n e
        have h1 := r.opd hx; rw [e] at h1
        exact .inr ⟨x, k1, n, rfl, h1.int_inv, k⟩
      · exact k.elim

omit [Glob] in
theorem run_sliceBounds (isS : Bool) (len cap : Nat) (lo hi : Option Operand) (L R : Int) (hlo : (lo = none ∧ L = 0) ∨ ∃ (x : Operand) (k1 : IntKind), lo = some x ∧ a.eval x = .int k1 L)
    (hhi : (hi = none ∧ R = len) ∨ ∃ (x : Operand) (k1 : IntKind), hi = some x ∧ a.eval x = .int k1 R) (h0 : 0 ≤ L) (h1 : L ≤ R) (h2 : R ≤ cap) :
    (Instr.sliceBounds isS len cap (lo.map a.eval) (hi.map a.eval) none).run P w = .ok (L.toNat, R.toNat, cap) w := by
  have hR : ((R.toNat : Nat) : Int) = R := by omega
  rcases hlo with ⟨rfl, rfl⟩ | ⟨x, k1, rfl, ex⟩ <;> rcases hhi with ⟨rfl, rfl⟩ | ⟨y, k2, rfl, ey⟩
  · simp [Instr.sliceBounds]
  · have hy := run_sliceBound (P := P) (w := w) ey cap (if isS then .sliceAcap else .sliceAlen) (by omega) h2
    simp [Instr.sliceBounds, hy]
  · have hx := run_sliceBound (P := P) (w := w) ex len .sliceB h0 (by omega)
    simp [Instr.sliceBounds, hx]
  · have hy := run_sliceBound (P := P) (w := w) ey cap (if isS then .sliceAcap else .sliceAlen) (by omega) h2
    have hx := run_sliceBound (P := P) (w := w) ex R.toNat .sliceB h0 (by omega)
    simp [Instr.sliceBounds, hx, hy]

theorem y_slS {t : TypeId} {x : Operand} {lo hi : Option Operand} {x' : Opd} {lo' hi' : Option Opd} (ht : P.underlying t = some .string) (ho : o.op = .slice t x lo hi none) (hx : compO x = some x') (hlo : compB lo = some lo') (hhi : compB hi = some hi')
    (r : StRel X lw w a bs s) (k : aval s.h s.tm (.slS x' lo' hi') K) : Yields P X a w s.h bs o K := by
  simp only [aval] at k
  split at k
  · rename_i l e
    have h1 := r.opd hx; rw [e] at h1; have v1 := h1.str_inv
    have go : ∀ (L R : Int), ((lo = none ∧ L = 0) ∨ ∃ (x : Operand) (k1 : IntKind), lo = some x ∧ a.eval x = .int k1 L) → ((hi = none ∧ R = l.length) ∨ ∃ (x : Operand) (k1 : IntKind), hi = some x ∧ a.eval x = .int k1 R) →
        ((0 ≤ L ∧ L ≤ R ∧ R ≤ l.length) ∧ K (.str ((l.take R.toNat).drop L.toNat))) → Yields P X a w s.h bs o K := by
      intro L R hL hR ⟨⟨g0, g1, g2⟩, k⟩
      have hb := run_sliceBounds (P := P) (w := w) (a := a) false l.length l.length lo hi L R hL hR g0 g1 g2
      refine ⟨_, .string ⟨((l.take R.toNat).drop L.toNat).toArray⟩, ?_, .str _, k⟩
      have hext : (⟨l.toArray⟩ : ByteArray).extract L.toNat R.toNat = ⟨((l.take R.toNat).drop L.toNat).toArray⟩ := by
        apply ByteArray.ext
        apply Array.ext'
        rw [ByteArray.data_extract]
        simp only [Array.toList_extract, List.extract, List.drop_take]
      simp only [execOp, ho, v1, Instr.sliceAt, Sem.run_bind, run_underlying ht, Result.andThen_ok, Instr.slice]
      simp [size_mk, hb, hext]
    rcases bound_run hlo r k with ⟨e1, k⟩ | ⟨xl, k1, L, e1, v, k⟩ <;> rcases bound_run hhi r k with ⟨e2, k⟩ | ⟨xr, k2, R, e2, v', k⟩
    · exact go _ _ (.inl ⟨e1, rfl⟩) (.inl ⟨e2, rfl⟩) k
    · exact go _ _ (.inl ⟨e1, rfl⟩) (.inr ⟨_, _, e2, v'⟩) k
    · exact go _ _ (.inr ⟨_, _, e1, v⟩) (.inl ⟨e2, rfl⟩) k
    · exact go _ _ (.inr ⟨_, _, e1, v⟩) (.inr ⟨_, _, e2, v'⟩) k
  · exact k.elim

omit [Glob] in
theorem Rep.sl_cut {h : List AObj} {sz : Nat} {xs : List AV} {b off c : Nat} {vs : Nat → Nat → Value} (L R : Nat) (hc : xs.length ≤ c) (hm : c ≤ maxLen) (hp : pureL xs = true) (hlt : b < w.heap.size) (hX : ¬ X.own b) (hb : some b ∉ bs) (hsz : ∀ x ∈ xs, x.cells.length = sz ∧ ∀ y ∈ x.cells, y.one = true)
    (hcell : ∀ (j : Nat) (x : AV) (k : Nat) (y : AV), xs[j]? = some x → x.cells[k]? = some y → w.cell? ⟨b, off + (j * sz + k), none⟩ = some (vs j k))
    (hrep : ∀ (j : Nat) (x : AV) (k : Nat) (y : AV), xs[j]? = some x → x.cells[k]? = some y → Rep X w h bs y (vs j k)) (hLR : L ≤ R) (hR : R ≤ xs.length) :
    Rep X w h bs (.sl sz ((xs.take R).drop L)) (.slice (if c = L then some ⟨b, off, none⟩ else some ⟨b, off + L * sz, none⟩) (R - L) (c - L)) := by
  by_cases he : R - L = 0
  · have : (xs.take R).drop L = [] := by apply List.eq_nil_of_length_eq_zero; simp; omega
    rw [this, he]
    exact .slE sz _ _
  · rw [if_neg (by omega)]
    have hl : ((xs.take R).drop L).length = R - L := by simp; omega
    have hg : ∀ (j : Nat) (x : AV), ((xs.take R).drop L)[j]? = some x → xs[L + j]? = some x := fun j x e => by
      rw [List.getElem?_drop] at e; exact getElem?_take_some e
    have hmem : ∀ x, x ∈ (xs.take R).drop L → x ∈ xs := fun x hx => List.mem_of_mem_take (List.mem_of_mem_drop hx)
    have := Rep.sl (X := X) (w := w) (h := h) (bs := bs) sz ((xs.take R).drop L) b (off + L * sz) (c - L) (fun j k => vs (L + j) k) (by intro e; rw [e] at hl; simp at hl; omega) (pureL_iff.2 fun x hx => pureL_iff.1 hp x (hmem x hx)) (by rw [hl]; omega) (by omega) hlt hX hb
      (fun x hx => hsz x (hmem x hx)) (fun j x k y e1 e2 => by
        have := hcell (L + j) x k y (hg j x e1) e2
        rw [← this]; congr 2; rw [Nat.add_mul]; omega) (fun j x k y e1 e2 => hrep _ x k y (hg j x e1) e2)
    rw [hl] at this
    exact this

theorem y_slL {t e : TypeId} {inf : TypeInfo} {x : Operand} {lo hi : Option Operand} {x' : Opd} {lo' hi' : Option Opd} (ht : P.underlying t = some (.slice e)) (hi0 : P.info? e = some inf) (ho : o.op = .slice t x lo hi none) (hx : compO x = some x') (hlo : compB lo = some lo') (hhi : compB hi = some hi')
    (r : StRel X lw w a bs s) (k : aval s.h s.tm (.slL inf.size x' lo' hi') K) : Yields P X a w s.h bs o K := by
  simp only [aval] at k
  have h1 := r.opd hx
  generalize hv : a.eval x = xv at h1
  -- the run, for whatever slice
  have run : ∀ (A : Option Addr) (len c : Nat) (L R : Int), xv = .slice A len c → ((lo = none ∧ L = 0) ∨ ∃ (x : Operand) (k1 : IntKind), lo = some x ∧ a.eval x = .int k1 L) → ((hi = none ∧ R = len) ∨ ∃ (x : Operand) (k1 : IntKind), hi = some x ∧ a.eval x = .int k1 R) →
      0 ≤ L → L ≤ R → R ≤ c → (execOp a.eval o).run P w = .ok (.value (.slice (if c = L.toNat then A else A.map (·.add (L.toNat * inf.size))) (R.toNat - L.toNat) (c - L.toNat))) w := by
    rintro A len c L R rfl hL hR g0 g1 g2
    have hb := run_sliceBounds (P := P) (w := w) (a := a) true len c lo hi L R hL hR g0 g1 g2
    simp only [execOp, ho, hv, Instr.sliceAt, Sem.run_bind, run_underlying ht, Result.andThen_ok, Instr.slice]
    simp [hb, sizeOf, typeInfo, hi0]
  have two : ∀ (d : Int) (F : Int → Int → Prop), (bound s.tm 0 lo' fun l => bound s.tm d hi' fun r => F l r) →
      ∃ L R, ((lo = none ∧ L = 0) ∨ ∃ (x : Operand) (k1 : IntKind), lo = some x ∧ a.eval x = .int k1 L) ∧ ((hi = none ∧ R = d) ∨ ∃ (x : Operand) (k1 : IntKind), hi = some x ∧ a.eval x = .int k1 R) ∧ F L R := by
    intro d F k
    rcases bound_run hlo r k with ⟨e1, k⟩ | ⟨xl, k1, L, e1, v, k⟩ <;> rcases bound_run hhi r k with ⟨e2, k⟩ | ⟨xr, k2, R, e2, v', k⟩
    · exact ⟨_, _, .inl ⟨e1, rfl⟩, .inl ⟨e2, rfl⟩, k⟩
    · exact ⟨_, _, .inl ⟨e1, rfl⟩, .inr ⟨_, _, e2, v'⟩, k⟩
    · exact ⟨_, _, .inr ⟨_, _, e1, v⟩, .inl ⟨e2, rfl⟩, k⟩
    · exact ⟨_, _, .inr ⟨_, _, e1, v⟩, .inr ⟨_, _, e2, v'⟩, k⟩
  split at k
  · rename_i sz xs e1; rw [e1] at h1
    obtain ⟨L, R, hL, hR, hk⟩ := two (xs.length : Nat) (fun l r => (sz = inf.size ∧ 0 ≤ l ∧ l ≤ r ∧ r ≤ xs.length) ∧ K (.sl inf.size ((xs.take r.toNat).drop l.toNat))) k
    clear k
    obtain ⟨⟨hsz', g0, g1, g2⟩, k⟩ := hk
    subst hsz'
    cases h1 with
    | slE _ A c =>
      simp only [List.length_nil] at g2 hR
      have hR0 : R = 0 := by omega
      have hL0 : L = 0 := by omega
      subst hR0; subst hL0
      refine ⟨_, _, run A 0 c 0 0 rfl hL hR (by omega) (by omega) (by omega), ?_, k⟩
      simp
      exact .slE _ _ _
    | sl _ _ b off c vs hne hp hc hm hlt hX hb hsz hcell hrep =>
      refine ⟨_, _, run _ xs.length c L R rfl hL hR g0 g1 (by omega), ?_, k⟩
      have := Rep.sl_cut L.toNat R.toNat hc hm hp hlt hX hb hsz hcell hrep (by omega) (by omega)
      simp only [Option.map_some, Addr.add_lit]
      exact this
  · rename_i e1; rw [e1] at h1
    obtain ⟨L, R, hL, hR, hk⟩ := two 0 (fun l r => (l = 0 ∧ r = 0) ∧ K .nils) k
    obtain ⟨⟨g0, g1⟩, k⟩ := hk
    subst g0; subst g1
    cases h1
    refine ⟨_, _, run none 0 0 0 0 rfl hL hR (by omega) (by omega) (by omega), ?_, k⟩
    simp
    exact .nils
  · rename_i oi ver off len e1; rw [e1] at h1
    split at k
    · rename_i ob e2
      obtain ⟨L, R, hL, hR, hk⟩ := two (len : Nat) (fun l r => (ob.ver = ver ∧ ob.sz = inf.size ∧ 0 ≤ l ∧ l ≤ r ∧ r ≤ len) ∧ K (.osl oi ver (off + l.toNat) (r - l).toNat)) k
      obtain ⟨⟨hver, hs, g0, g1, g2⟩, k⟩ := hk
      cases h1 with
      | oslN _ _ ob' hob hv' hb =>
        have hR0 : R = 0 := by simp at g2; omega
        have hL0 : L = 0 := by omega
        subst hR0; subst hL0
        refine ⟨_, _, run none 0 0 0 0 rfl hL hR (by omega) (by omega) (by omega), ?_, k⟩
        simp
        exact .oslN oi ver ob' hob hv' hb
      | osl _ _ _ _ c ob' b C hob hv' hb hlen hlc hcm hC hcap =>
        rw [e2] at hob; cases hob
        refine ⟨_, _, run _ len c L R rfl hL hR g0 g1 (by omega), ?_, k⟩
        have hRL : (R - L).toNat = R.toNat - L.toNat := by omega
        rw [hRL]
        by_cases he : c = L.toNat
        · rw [if_pos he]
          have h1 : R.toNat - L.toNat = 0 := by omega
          have h2 : c - L.toNat = 0 := by omega
          rw [h1, h2]
          by_cases hz : off + L.toNat = 0
          · have hoff : off = 0 := by omega
            have hl0 : L.toNat = 0 := by omega
            subst hoff
            rw [hl0]
            exact .osl oi ver 0 0 0 ob b C e2 hv' hb (by omega) (by omega) (by omega) hC (by rw [← hcap]; congr 1; omega)
          · exact .oslE oi ver _ ob e2 hv' (by omega) _
        · rw [if_neg he]
          simp only [Option.map_some, Addr.add_lit]
          rw [← hs, ← Nat.add_mul]
          exact .osl oi ver (off + L.toNat) (R.toNat - L.toNat) (c - L.toNat) ob b C e2 hv' hb (by omega) (by omega) (by omega) hC (by rw [← hcap]; congr 1; omega)
      | oslE _ _ _ ob' hob hv' hoff A =>
        have hR0 : R = 0 := by simp at g2; omega
        have hL0 : L = 0 := by omega
        subst hR0; subst hL0
        refine ⟨_, _, run A 0 0 0 0 rfl hL hR (by omega) (by omega) (by omega), ?_, k⟩
        simp
        exact .oslE oi ver off ob' hob hv' hoff A
      | oslS _ _ _ _ ob' hob hlt => rw [e2] at hob; cases hob; omega
    · exact k.elim
  · exact k.elim

omit [Glob] in
/-- The cells of what stands for a known value. -/
theorem Rep.cells {h : List AObj} {v : AV} {x : Value} (r : Rep X w h bs v x) (hk : v.kn = true) : x.cells.size = v.cells.length ∧ ∀ (j : Nat) (y : AV) (z : Value), v.cells[j]? = some y → x.cells[j]? = some z → Rep X w h bs y z := by
  cases r with
  | any => cases hk
  | agg l cs hl hrep => exact ⟨by simpa [Value.cells, AV.cells] using hl, fun j y z e1 e2 => hrep j y z e1 e2⟩
  | _ =>
    refine ⟨rfl, fun j y z e1 e2 => ?_⟩
    cases j with
    | zero => simp [AV.cells, Value.cells] at e1 e2; subst e1 e2; constructor <;> assumption
    | succ j => simp [AV.cells] at e1

omit [Glob] in
/-- Cells that are laid side by side. -/
theorem foldl_set (off : Nat) : ∀ (vs : List Value) (n : Nat) (cs : Array Value), off + n + vs.length ≤ cs.size →
    ((vs.zipIdx n).foldl (fun cs (p : Value × Nat) => cs.setIfInBounds (off + p.2) p.1) cs).size = cs.size ∧ ∀ m : Nat, ((vs.zipIdx n).foldl (fun cs (p : Value × Nat) => cs.setIfInBounds (off + p.2) p.1) cs)[m]? = if off + n ≤ m ∧ m < off + n + vs.length then vs[m - (off + n)]? else cs[m]?
  | [], n, cs, _ => by
    refine ⟨rfl, fun m => ?_⟩
    rw [if_neg (by simp)]; rfl
  | v :: vs, n, cs, h => by
    simp only [List.zipIdx_cons, List.foldl_cons]
    obtain ⟨g1, g2⟩ := foldl_set off vs (n + 1) (cs.setIfInBounds (off + n) v) (by simp at h ⊢; omega)
    refine ⟨by rw [g1]; simp, fun m => ?_⟩
    rw [g2 m]
    simp only [List.length_cons] at h ⊢
    by_cases h1 : off + (n + 1) ≤ m ∧ m < off + (n + 1) + vs.length
    · rw [if_pos h1, if_pos (by omega)]
      have : m - (off + n) = (m - (off + (n + 1))) + 1 := by omega
      rw [this, List.getElem?_cons_succ]
    · rw [if_neg h1, Array.getElem?_setIfInBounds]
      by_cases h2 : off + n = m
      · rw [if_pos h2, if_pos (by omega), if_pos (by omega), ← h2, Nat.sub_self]; rfl
      · rw [if_neg h2, if_neg (by omega)]


omit [Glob] in
/-- Values that are compared cell by cell. -/
theorem run_eqFields_flat (d : Nat) (cs ds : Array Value) : ∀ (fs : List Field) (n : Nat) (q : List CK) (la lb : List AV) (b : Bool), flatF P n fs = some q → cellsEq q la lb = some b →
    (∀ (j : Nat) (x : AV), la[j]? = some x → ∃ v, cs[n + j]? = some v ∧ Rep X w s.h bs x v) → (∀ (j : Nat) (x : AV), lb[j]? = some x → ∃ v, ds[n + j]? = some v ∧ Rep X w s.h bs x v) →
    (Op.eqFields (d + 1) cs ds fs).run P w = .ok b w
  | [], n, q, la, lb, b, hq, hb, ha, hd => by
    simp only [flatF, Option.some.injEq] at hq
    subst hq
    cases la with
    | cons x r => simp [cellsEq] at hb
    | nil => cases lb with
      | cons x r => simp [cellsEq] at hb
      | nil => simp [cellsEq] at hb; subst hb; simp [Op.eqFields]
  | f :: fs, n, q, la, lb, b, hq, hb, ha, hd => by
    simp only [flatF] at hq
    split at hq
    case isFalse => cases hq
    rename_i hn
    obtain ⟨hname, hoff⟩ := hn
    have step : ∀ (c : CK) (q' : List CK) (x y : AV) (la' lb' : List AV) (e b' : Bool), flatF P (n + 1) fs = some q' → la = x :: la' → lb = y :: lb' → cellsEq q' la' lb' = some b' → b = (e && b') →
        (∀ v u, Rep X w s.h bs x v → Rep X w s.h bs y u → cs[n]? = some v → ds[n]? = some u → (part f.type cs n).run P w = .ok v w ∧ (part f.type ds n).run P w = .ok u w ∧ (Op.equalIn (d + 1) f.type v u).run P w = .ok e w) → (Op.eqFields (d + 1) cs ds (f :: fs)).run P w = .ok b w := by
      rintro c q' x y la' lb' e b' hq' rfl rfl hb' rfl hk
      obtain ⟨v, hv, rv⟩ := ha 0 x (by simp)
      obtain ⟨u, hu, ru⟩ := hd 0 y (by simp)
      obtain ⟨k1, k2, k3⟩ := hk v u rv ru hv hu
      have ih := run_eqFields_flat d cs ds fs (n + 1) q' la' lb' b' hq' hb' (fun j z hz => by have := ha (j + 1) z (by simpa using hz); rw [show n + 1 + j = n + (j + 1) by omega]; exact this) (fun j z hz => by have := hd (j + 1) z (by simpa using hz); rw [show n + 1 + j = n + (j + 1) by omega]; exact this)
      simp only [Op.eqFields]
      rw [if_pos hname, hoff]
      simp only [Sem.run_bind, k1, k2, k3, Result.andThen_ok, Sem.run_ite]
      cases e with
      | true => simpa using ih
      | false => simp
    have prt : ∀ (D : TypeDesc) (cs : Array Value) (v : Value), P.underlying f.type = some D → (match D with | .struct _ | .array .. => False | _ => True) → cs[n]? = some v → (part f.type cs n).run P w = .ok v w := by
      intro D cs v hD hk hv
      cases D <;> first | exact hk.elim | simp [part, isAgg, run_underlying hD, hv]
    split at hq
    · rename_i q' h1 h2
      cases hq
      cases la with
      | nil => simp [cellsEq] at hb
      | cons x la' => cases lb with
        | nil => cases x <;> simp [cellsEq] at hb
        | cons y lb' =>
          cases x <;> cases y <;> simp only [cellsEq] at hb <;> try (cases hb; done)
          cases hb' : cellsEq q' la' lb' with
          | none => rw [hb'] at hb; cases hb
          | some b' =>
            rw [hb'] at hb; cases hb
            refine step .bool q' _ _ la' lb' _ b' h2 rfl rfl hb' rfl ?_
            intro v u rv ru hv hu
            have ev := rv.bool_inv; have eu := ru.bool_inv; subst ev eu
            exact ⟨prt _ _ _ h1 trivial hv, prt _ _ _ h1 trivial hu, run_equalIn_bool' w d f.type _ _ h1⟩
    · rename_i k0 q' h1 h2
      cases hq
      cases la with
      | nil => simp [cellsEq] at hb
      | cons x la' => cases lb with
        | nil => cases x <;> simp [cellsEq] at hb
        | cons y lb' =>
          cases x <;> cases y <;> simp only [cellsEq] at hb <;> try (cases hb; done)
          split at hb
          case isFalse => cases hb
          rename_i hk
          cases hb' : cellsEq q' la' lb' with
          | none => rw [hb'] at hb; cases hb
          | some b' =>
            rw [hb'] at hb; cases hb
            refine step .int q' _ _ la' lb' _ b' h2 rfl rfl hb' rfl ?_
            intro v u rv ru hv hu
            have ev := rv.int_inv; have eu := ru.int_inv; subst ev eu hk
            exact ⟨prt _ _ _ h1 trivial hv, prt _ _ _ h1 trivial hu, run_equalIn_int w d f.type _ _ _ _ h1⟩
    · rename_i q' h1 h2
      cases hq
      cases la with
      | nil => simp [cellsEq] at hb
      | cons x la' => cases lb with
        | nil => cases x <;> simp [cellsEq] at hb
        | cons y lb' =>
          cases x <;> cases y <;> simp only [cellsEq] at hb <;> try (cases hb; done)
          cases hb' : cellsEq q' la' lb' with
          | none => rw [hb'] at hb; cases hb
          | some b' =>
            rw [hb'] at hb; cases hb
            refine step .str q' _ _ la' lb' _ b' h2 rfl rfl hb' rfl ?_
            intro v u rv ru hv hu
            have ev := rv.str_inv; have eu := ru.str_inv; subst ev eu
            refine ⟨prt _ _ _ h1 trivial hv, prt _ _ _ h1 trivial hu, ?_⟩
            rw [run_equalIn_string w d f.type _ _ h1, ByteArray.toList_mk, ByteArray.toList_mk]
    · cases hq

theorem y_eqA {t t' : TypeId} {fs : Array Field} {q : List CK} {x y : Operand} {x' y' : Opd} {op : BinOp} {neg : Bool} (hop : op = .eql ∧ neg = false ∨ op = .neq ∧ neg = true) (ht : P.underlying t = some (.struct fs)) (hq : flatF P 0 fs.toList = some q) (hs : P.stoodInHeld t = false) (hg : P.eqGuardType P.depth t = false)
    (ho : o.op = .binOp op t x y t') (hx : compO x = some x') (hy : compO y = some y') (r : StRel X lw w a bs s) (k : aval s.h s.tm (.eqA neg q x' y') K) : Yields P X a w s.h bs o K := by
  simp only [aval] at k
  split at k
  · rename_i la lb e1 e2
    split at k
    · rename_i b hb
      have h1 := r.opd hx; rw [e1] at h1
      have h2 := r.opd hy; rw [e2] at h2
      generalize hv1 : a.eval x = xv at h1
      generalize hv2 : a.eval y = yv at h2
      cases h1 with
      | agg _ cs hl1 hr1 =>
        cases h2 with
        | agg _ ds hl2 hr2 =>
          have hfs : P.fieldsOf t = fs := by simp [Program.fieldsOf, ht]
          have main : (Op.equalIn 10000 t (.agg cs) (.agg ds)).run P w = .ok b w := by
            rw [run_equalIn_agg w 9999 t cs ds (by rw [hfs]; exact ht) hs, hfs]
            refine run_eqFields_flat (X := X) (s := s) (bs := bs) 9998 cs ds fs.toList 0 q la lb b hq hb (fun j z hz => ?_) (fun j z hz => ?_)
            · have hj : j < cs.size := by rw [hl1]; exact (List.getElem?_eq_some_iff.1 hz).1
              exact ⟨cs[j], by rw [Nat.zero_add]; exact Array.getElem?_eq_getElem hj, hr1 j z _ hz (Array.getElem?_eq_getElem hj)⟩
            · have hj : j < ds.size := by rw [hl2]; exact (List.getElem?_eq_some_iff.1 hz).1
              exact ⟨ds[j], by rw [Nat.zero_add]; exact Array.getElem?_eq_getElem hj, hr2 j z _ hz (Array.getElem?_eq_getElem hj)⟩
          rcases hop with ⟨rfl, rfl⟩ | ⟨rfl, rfl⟩
          · refine ⟨_, .bool b, ?_, .bool _, by simpa using k⟩
            simp [execOp, ho, hv1, hv2, run_eqGuard_agg w .eql t x y cs ds hg, run_eql_struct w, main]
          · refine ⟨_, .bool (!b), ?_, .bool _, by simpa using k⟩
            simp [execOp, ho, hv1, hv2, run_eqGuard_agg w .neq t x y cs ds hg, run_neq_struct w, main]
    · exact k.elim
  · exact k.elim

omit [Glob] in
theorem nilc_s {y : Operand} (e : compO y = some (.c .nils)) : y = .const (.slice none 0 0) := by
  cases y with
  | const v =>
    simp only [compO] at e
    cases h1 : constV v with
    | none => rw [h1] at e; cases e
    | some z =>
      rw [h1] at e; cases e
      unfold constV at h1
      split at h1
      · cases hh : constL _ <;> rw [hh] at h1 <;> cases h1
      · unfold constA at h1
        split at h1 <;> first | (cases h1; done) | (cases h1; rfl)
  | _ => cases e
omit [Glob] in
theorem nilc_i {y : Operand} (e : compO y = some (.c .nili)) : y = .const .nilIface := by
  cases y with
  | const v =>
    simp only [compO] at e
    cases h1 : constV v with
    | none => rw [h1] at e; cases e
    | some z =>
      rw [h1] at e; cases e
      unfold constV at h1
      split at h1
      · cases hh : constL _ <;> rw [hh] at h1 <;> cases h1
      · unfold constA at h1
        split at h1 <;> first | (cases h1; done) | (cases h1; rfl)
  | _ => cases e
omit [Glob] in
theorem nilc_f {y : Operand} (e : compO y = some (.c .nilf)) : y = .const .nilFunc := by
  cases y with
  | const v =>
    simp only [compO] at e
    cases h1 : constV v with
    | none => rw [h1] at e; cases e
    | some z =>
      rw [h1] at e; cases e
      unfold constV at h1
      split at h1
      · cases hh : constL _ <;> rw [hh] at h1 <;> cases h1
      · unfold constA at h1
        split at h1 <;> first | (cases h1; done) | (cases h1; rfl)
  | _ => cases e

omit [Glob] in
theorem Rep.nils_inv {h : List AObj} {v : Value} (r : Rep X w h bs .nils v) : v = .slice none 0 0 := by cases r; rfl
omit [Glob] in
theorem Rep.nili_inv {h : List AObj} {v : Value} (r : Rep X w h bs .nili v) : v = .nilIface := by cases r; rfl
omit [Glob] in
theorem Rep.nilf_inv {h : List AObj} {v : Value} (r : Rep X w h bs .nilf v) : v = .nilFunc := by cases r; rfl
theorem y_isN_s {t t' e : TypeId} {x y : Operand} {x' : Opd} {op : BinOp} {neg : Bool} (hop : op = .eql ∧ neg = false ∨ op = .neq ∧ neg = true) (ht : P.underlying t = some (.slice e)) (hy : compO y = some (.c .nils))
    (ho : o.op = .binOp op t x y t') (hx : compO x = some x') (r : StRel X lw w a bs s) (k : aval s.h s.tm (.isN neg .s x') K) : Yields P X a w s.h bs o K := by
  simp only [aval] at k
  have hy := nilc_s hy; subst hy
  have hev : ∀ v, a.eval (.const v) = v := fun _ => rfl
  split at k
  case h_1 _ he =>
    have h1 := r.opd hx; rw [he] at h1
    have v1 := h1.nils_inv
    have hq := run_equal_slice_nil (P := P) w t e none 0 0 ht
    rcases hop with ⟨rfl, rfl⟩ | ⟨rfl, rfl⟩
    · exact ⟨_, .bool true, by simp [execOp, ho, v1, eqGuard, binOp, hev, hq], .bool _, k⟩
    · exact ⟨_, .bool false, by simp [execOp, ho, v1, eqGuard, binOp, hev, hq], .bool _, k⟩
  all_goals first | exact k.elim | (rename_i h _; cases h)
theorem y_isN_i {t t' : TypeId} {m : Array (String × TypeId)} {x y : Operand} {x' : Opd} {op : BinOp} {neg : Bool} (hop : op = .eql ∧ neg = false ∨ op = .neq ∧ neg = true) (ht : P.underlying t = some (.interface m)) (hy : compO y = some (.c .nili))
    (ho : o.op = .binOp op t x y t') (hx : compO x = some x') (r : StRel X lw w a bs s) (k : aval s.h s.tm (.isN neg .i x') K) : Yields P X a w s.h bs o K := by
  simp only [aval] at k
  have hy := nilc_i hy; subst hy
  have hev : ∀ v, a.eval (.const v) = v := fun _ => rfl
  have q0 : ∀ d, (Op.equalIn (d + 1) t .nilIface .nilIface).run P w = .ok true w := fun d => by simp [Op.equalIn, run_underlying ht]
  have q1 : ∀ d u v, (Op.equalIn (d + 1) t (.iface u v) .nilIface).run P w = .ok false w := fun d u v => by simp [Op.equalIn, run_underlying ht]
  have p0 : (Op.equal t .nilIface .nilIface).run P w = .ok true w := q0 9999
  have p1 : ∀ u v, (Op.equal t (.iface u v) .nilIface).run P w = .ok false w := q1 9999
  generalize hv : a.eval x = xv
  have h1 := r.opd hx; rw [hv] at h1
  split at k
  case h_2 _ he =>
    rw [he] at h1
    have v1 := h1.nili_inv; subst v1
    rcases hop with ⟨rfl, rfl⟩ | ⟨rfl, rfl⟩
    · exact ⟨_, .bool true, by simp [execOp, ho, hv, eqGuard, binOp, hev, p0], .bool _, k⟩
    · exact ⟨_, .bool false, by simp [execOp, ho, hv, eqGuard, binOp, hev, p0], .bool _, k⟩
  case h_4 u z _ he =>
    rw [he] at h1
    cases h1 with
    | iface _ _ v hv2 =>
      rcases hop with ⟨rfl, rfl⟩ | ⟨rfl, rfl⟩
      · exact ⟨_, .bool false, by simp [execOp, ho, hv, eqGuard, binOp, hev, p1], .bool _, k⟩
      · exact ⟨_, .bool true, by simp [execOp, ho, hv, eqGuard, binOp, hev, p1], .bool _, k⟩
  all_goals first | exact k.elim | (rename_i h _; cases h)
theorem y_isN_f {t t' : TypeId} {p q : Array TypeId} {vr : Bool} {x y : Operand} {x' : Opd} {op : BinOp} {neg : Bool} (hop : op = .eql ∧ neg = false ∨ op = .neq ∧ neg = true) (ht : P.underlying t = some (.func p q vr)) (hy : compO y = some (.c .nilf))
    (ho : o.op = .binOp op t x y t') (hx : compO x = some x') (r : StRel X lw w a bs s) (k : aval s.h s.tm (.isN neg .f x') K) : Yields P X a w s.h bs o K := by
  simp only [aval] at k
  have hy := nilc_f hy; subst hy
  have hev : ∀ v, a.eval (.const v) = v := fun _ => rfl
  have q0 : ∀ d, (Op.equalIn (d + 1) t .nilFunc .nilFunc).run P w = .ok true w := fun d => by simp [Op.equalIn, run_underlying ht]
  have q1 : ∀ d u v c, (Op.equalIn (d + 1) t (.func u v c) .nilFunc).run P w = .ok false w := fun d u v c => by simp [Op.equalIn, run_underlying ht]
  have p0 : (Op.equal t .nilFunc .nilFunc).run P w = .ok true w := q0 9999
  have p1 : ∀ u v c, (Op.equal t (.func u v c) .nilFunc).run P w = .ok false w := q1 9999
  generalize hv : a.eval x = xv
  have h1 := r.opd hx; rw [hv] at h1
  split at k
  case h_3 _ he =>
    rw [he] at h1
    have v1 := h1.nilf_inv; subst v1
    rcases hop with ⟨rfl, rfl⟩ | ⟨rfl, rfl⟩
    · exact ⟨_, .bool true, by simp [execOp, ho, hv, eqGuard, binOp, hev, p0], .bool _, k⟩
    · exact ⟨_, .bool false, by simp [execOp, ho, hv, eqGuard, binOp, hev, p0], .bool _, k⟩
  case h_5 f l _ he =>
    rw [he] at h1
    cases h1 with
    | fn _ _ cs hl hr =>
      rcases hop with ⟨rfl, rfl⟩ | ⟨rfl, rfl⟩
      · exact ⟨_, .bool false, by simp [execOp, ho, hv, eqGuard, binOp, hev, p1], .bool _, k⟩
      · exact ⟨_, .bool true, by simp [execOp, ho, hv, eqGuard, binOp, hev, p1], .bool _, k⟩
  all_goals first | exact k.elim | (rename_i h _; cases h)

theorem fill_bld {pl : List (Nat × Nat)} (r : StRel X lw w a bs s) : ∀ (ps : List (Nat × Operand)) (l : List (Nat × Nat × Opd)) (z : List AV) (cs : Array Value) (K : List AV → Prop), partsOf pl ps = some l → cs.size = z.length →
    (∀ (j : Nat) (y : AV) (v : Value), z[j]? = some y → cs[j]? = some v → Rep X w s.h bs y v) → bldK (ev s.tm) z l K →
    ∃ cs' z', Instr.fill (fun i => pl[i]?) cs (ps.map fun p => (p.1, a.eval p.2)) = some cs' ∧ cs'.size = z'.length ∧ (∀ (j : Nat) (y : AV) (v : Value), z'[j]? = some y → cs'[j]? = some v → Rep X w s.h bs y v) ∧ K z'
  | [], l, z, cs, K, hl, hs, hr, k => by
    simp only [partsOf, Option.some.injEq] at hl
    subst hl
    exact ⟨cs, z, rfl, hs, hr, k⟩
  | (i, x) :: ps, l, z, cs, K, hl, hs, hr, k => by
    simp only [partsOf] at hl
    split at hl
    · rename_i p x' l' h1 h2 h3
      cases hl
      obtain ⟨⟨k1, k2, k3⟩, k⟩ := k
      have hx := r.opd h2
      obtain ⟨c1, c2⟩ := hx.cells k1
      obtain ⟨g1, g2⟩ := foldl_set p.1 (a.eval x).cells.toList 0 cs (by simp [c1, k2, hs]; omega)
      have e : ((a.eval x).cells.zipIdx.foldl (fun cs (c, j) => cs.setIfInBounds (p.1 + j) c) cs) = (((a.eval x).cells.toList.zipIdx 0).foldl (fun cs (q : Value × Nat) => cs.setIfInBounds (p.1 + q.2) q.1) cs) := by
        rw [← Array.foldl_toList, Array.toList_zipIdx]
      have hlen : (z.take p.1 ++ (ev s.tm x').cells ++ z.drop (p.1 + p.2)).length = z.length := by simp [k2]; omega
      obtain ⟨cs', z', q1, q2, q3, q4⟩ := fill_bld r ps l' (z.take p.1 ++ (ev s.tm x').cells ++ z.drop (p.1 + p.2)) (((a.eval x).cells.toList.zipIdx 0).foldl (fun cs (q : Value × Nat) => cs.setIfInBounds (p.1 + q.2) q.1) cs) K h3 (by rw [g1, hlen, hs]) (fun j y v e1 e2 => by
        rw [g2 j] at e2
        simp only [Array.length_toList, Nat.add_zero] at e2
        rw [c1, k2] at e2
        split at e2
        · rename_i hj
          rw [List.append_assoc, List.getElem?_append_right (by simp; omega), List.getElem?_append_left (by simp [k2]; omega)] at e1
          have ht : (z.take p.1).length = p.1 := by simp; omega
          rw [ht] at e1
          exact c2 _ y v e1 (by simpa using e2)
        · rename_i hj
          refine hr j y v ?_ e2
          by_cases h4 : j < p.1
          · rw [List.append_assoc, List.getElem?_append_left (by simp; omega), List.getElem?_take, if_pos h4] at e1; exact e1
          · rw [List.getElem?_append_right (by simp [k2]; omega), List.getElem?_drop] at e1
            rw [← e1]; congr 1; simp [k2]; omega) k
      refine ⟨cs', z', ?_, q2, q3, q4⟩
      simp only [List.map_cons, Instr.fill, h1]
      rw [if_neg (by simp [c1, k2, hs]; omega), e]
      exact q1
    · cases hl

theorem y_bld {t : TypeId} {fs : Array Field} {i : TypeInfo} {z : Array Value} {zl : List AV} {pl : List (Nat × Nat)} {ps : Array (Nat × Operand)} {l : List (Nat × Nat × Opd)} (ht : P.underlying t = some (.struct fs)) (hi : P.info? t = some i) (hz : i.zero = some (.agg z))
    (hpl : fs.toList.mapM (fun f => (P.info? f.type).map fun i => (f.offset, i.size)) = some pl) (hzl : constL z.toList = some zl) (hl : partsOf pl ps.toList = some l) (ho : o.op = .build t ps)
    (r : StRel X lw w a bs s) (k : aval s.h s.tm (.bld zl l) K) : Yields P X a w s.h bs o K := by
  simp only [aval] at k
  obtain ⟨z1, z2⟩ := constL_rep (X := X) (w := w) (h := s.h) (bs := bs) hzl
  obtain ⟨cs', z', q1, q2, q3, q4⟩ := fill_bld r ps.toList l zl z _ hl (by rw [z1]; simp) (fun j y v e1 e2 => z2 j y v e1 (by simpa using e2)) k
  refine ⟨_, .agg cs', ?_, .agg z' cs' q2 q3, q4⟩
  have hb : P.built t (ps.map fun p => (p.1, a.eval p.2)).toList = some cs' := by
    unfold Program.built
    simp only [hi, ht, hz, hpl]
    rw [Array.toList_map]
    simpa [Value.cells] using q1
  have := run_build w t (ps.map fun p => (p.1, a.eval p.2)) cs' hb
  simp only [execOp, ho]
  simp [this]

/-- What is compiled yields what is told. -/
theorem compE_sound {e : AExp} (hc : compE P o.op = some e) (r : StRel X lw w a bs s) (k : aval s.h s.tm e K) : Yields P X a w s.h bs o K := by
  generalize hop : o.op = op at hc
  cases op <;> simp only [compE] at hc <;> try (cases hc; done)
  case move x =>
    cases hx : compO x <;> rw [hx] at hc <;> cases hc
    exact y_mov (.inl hop) hx r k
  case assign x =>
    cases hx : compO x <;> rw [hx] at hc <;> cases hc
    exact y_mov (.inr hop) hx r k
  case pick c x y =>
    split at hc
    · rename_i c' x' y' h1 h2 h3
      cases hc
      exact y_pick hop h1 h2 h3 r k
    · cases hc
  case binOp op t x y t' =>
    split at hc
    · rename_i h1 h2 h3; cases hc; exact y_binB h1 hop h2 h3 r k
    · rename_i h1 h2 h3; cases hc; exact y_bin hop h2 h3 r k
    · rename_i h1 h2 h3; cases hc; exact y_bin hop h2 h3 r k
    · rename_i h1 h2 h3
      split at hc
      · rename_i e1 e2 e3; cases hc; exact y_eqA (.inl ⟨rfl, rfl⟩) h1 e1 e2 e3 hop h2 h3 r k
      · rename_i e1 e2 e3; cases hc; exact y_eqA (.inr ⟨rfl, rfl⟩) h1 e1 e2 e3 hop h2 h3 r k
      · cases hc
    · rename_i h1 h2 h3
      split at hc <;> cases hc
      · exact y_isN_s (.inl ⟨rfl, rfl⟩) h1 h3 hop h2 r k
      · exact y_isN_s (.inr ⟨rfl, rfl⟩) h1 h3 hop h2 r k
    · rename_i h1 h2 h3
      split at hc <;> cases hc
      · exact y_isN_i (.inl ⟨rfl, rfl⟩) h1 h3 hop h2 r k
      · exact y_isN_i (.inr ⟨rfl, rfl⟩) h1 h3 hop h2 r k
    · rename_i h1 h2 h3
      split at hc <;> cases hc
      · exact y_isN_f (.inl ⟨rfl, rfl⟩) h1 h3 hop h2 r k
      · exact y_isN_f (.inr ⟨rfl, rfl⟩) h1 h3 hop h2 r k
    · cases hc
  case build t ps =>
    split at hc
    · rename_i h1 h2
      split at hc
      · rename_i h3 h4
        split at hc
        · rename_i h5 h6; cases hc; exact y_bld h1 h2 h3 h4 h5 h6 hop r k
        · cases hc
      · cases hc
    · cases hc
  case unOp op t x =>
    cases hx : compO x <;> rw [hx] at hc <;> cases hc
    exact y_un hop hx r k
  case convert src dst x =>
    split at hc
    · rename_i h1 h2 h3; cases hc; exact y_cint h1 h2 hop h3 r k
    · rename_i h1 h2 h3; cases hc; exact y_cstr h1 h2 hop h3 r k
    · rename_i h1 h2 h3
      split at hc
      · rename_i h4; cases hc; exact y_bstr h1 h4 h2 hop h3 r k
      · cases hc
    · cases hc
  case load t x =>
    split at hc
    · rename_i h1 h2; cases hc; exact y_load h1 hop h2 r k
    · cases hc
  case fieldAddr t x f =>
    split at hc
    · rename_i fs x' h1 h2
      split at hc
      · rename_i fd h3
        split at hc
        · rename_i i h4
          split at hc
          · cases hc
          · rename_i h5; cases hc; exact y_fad h1 h3 h4 h5 hop h2 r k
        · cases hc
      · cases hc
    · cases hc
  case indexAddr t x i =>
    split at hc
    · rename_i e x' i' h1 h2 h3
      cases hi : P.info? e <;> rw [hi] at hc <;> cases hc
      exact y_iad h1 hi hop h2 h3 r k
    · cases hc
  case index t x i =>
    split at hc
    · rename_i h1 h2 h3; cases hc; exact y_idx h1 hop h2 h3 r k
    · cases hc
  case field t x f =>
    split at hc
    · rename_i fs x' h1 h2
      split at hc
      · rename_i fd h3
        split at hc
        · rename_i ag n h4; cases hc; exact y_fld h1 h3 h4 hop h2 r k
        · cases hc
      · cases hc
    · cases hc
  case slice t x lo hi mx =>
    cases mx with
    | some m => simp only [compE] at hc; cases hc
    | none =>
      simp only [compE] at hc
      split at hc
      · rename_i h1 h2 h3 h4; cases hc; exact y_slS h1 hop h2 h3 h4 r k
      · rename_i e x' lo' hi' h1 h2 h3 h4
        cases hi : P.info? e <;> rw [hi] at hc <;> cases hc
        exact y_slL h1 hi hop h2 h3 h4 r k
      · cases hc
  case extract x i =>
    cases hx : compO x <;> rw [hx] at hc <;> cases hc
    exact y_ext hop hx r k
  case call c =>
    split at hc
    · rename_i x t h1 h2 h3
      have hcc : c = { callee := .builtin .len, args := #[x], argTypes := #[t] } := by
        obtain ⟨c1, c2, c3⟩ := c
        simp only at h1 h2 h3
        rw [h1, show c2 = #[x] from Array.ext' h2, show c3 = #[t] from Array.ext' h3]
      subst hcc
      split at hc
      · rename_i h4 h5; cases hc; exact y_lenS h4 hop h5 r k
      · rename_i h4 h5; cases hc; exact y_lenL h4 hop h5 r k
      · cases hc
    · rename_i x y h1 h2
      obtain ⟨c1, c2, c3⟩ := c
      simp only at h1 h2
      subst h1
      obtain rfl : c2 = #[x, y] := Array.ext' h2
      split at hc
      · rename_i h4 h5; cases hc; exact y_mx (g := true) hop h4 h5 r k
      · cases hc
    · rename_i x y h1 h2
      obtain ⟨c1, c2, c3⟩ := c
      simp only at h1 h2
      subst h1
      obtain rfl : c2 = #[x, y] := Array.ext' h2
      split at hc
      · rename_i h4 h5; cases hc; exact y_mx (g := false) hop h4 h5 r k
      · cases hc
    · cases hc
  case makeFunc fn first l =>
    split at hc
    · rename_i f h1
      have hf : first = #[] := Array.ext' h1
      subst hf
      cases hx : compOs l.toList <;> rw [hx] at hc <;> cases hc
      exact y_mkf hop hx r k
    · cases hc
  case makeInterface t x =>
    split at hc
    · cases hc
    · rename_i d x' h0 h1 h2; cases hc
      exact y_mki h1 (fun ms e => by subst e; exact h0 ms rfl) hop h2 r k
    · cases hc
  case nilCheck x =>
    cases hx : compO x <;> rw [hx] at hc <;> cases hc
    exact y_nck hop hx r k
end

end Go.Pe
