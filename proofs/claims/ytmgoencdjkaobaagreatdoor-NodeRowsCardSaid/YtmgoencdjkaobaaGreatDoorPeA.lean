/- The abstract values of the calculus 'Pe', what they stand for in a world, and what is kept from world to world. No program in sight; no conditions. -/
import Derived.Calls
import Derived.Below
import Derived.Laws.AppendOwn
set_option linter.unusedVariables false
namespace Go.Pe

/-- Abstract values. 'sl': a slice that is only read, by its elements; 'osl': a slice of a row of the walk's own; 'ptr': into such a row or box; 'rp': into memory that is only read. -/
inductive AV where
  | any
  | bool (b : Bool)
  | int (k : IntKind) (n : Int)
  | flt (k : FloatKind) (b : Nat)
  | str (s : List UInt8)
  | nilp | nilf | nili | nils
  | sl (sz : Nat) (xs : List AV)
  | osl (o ver off len : Nat)
  | ptr (o ver i k : Nat)
  | rp (xs : List AV)
  | fn (f : FuncId) (cap : List AV)
  | iface (t : TypeId) (v : AV)
  | agg (xs : List AV)
  | tup (xs : List AV)
  | yld
  deriving Inhabited

def AV.cells : AV → List AV
  | .agg l => l
  | v => [v]
/-- The value of one cell. -/
def AV.one : AV → Bool
  | .agg _ => false
  | .tup _ => false
  | .any => false
  | .yld => false
  | _ => true

mutual
/-- It leads to no row of the walk's own. -/
def AV.pure : AV → Bool
  | .osl .. => false
  | .ptr .. => false
  | .fn _ l => pureL l
  | .iface _ v => v.pure
  | .agg l => pureL l
  | .tup l => pureL l
  | .yld => false
  | _ => true
def pureL : List AV → Bool
  | [] => true
  | x :: r => x.pure && pureL r
end
mutual
/-- It leads to rows below this number. -/
def AV.refs : AV → Nat
  | .osl o .. => o + 1
  | .ptr o .. => o + 1
  | .fn _ l => refsL l
  | .iface _ v => v.refs
  | .agg l => refsL l
  | .tup l => refsL l
  | _ => 0
def refsL : List AV → Nat
  | [] => 0
  | x :: r => max x.refs (refsL r)
end

mutual
/-- It leads to no loop's yield. -/
def AV.noY : AV → Bool
  | .sl _ l => noYL l
  | .rp l => noYL l
  | .fn _ l => noYL l
  | .iface _ v => v.noY
  | .agg l => noYL l
  | .tup l => noYL l
  | .yld => false
  | _ => true
def noYL : List AV → Bool
  | [] => true
  | x :: r => x.noY && noYL r
end
theorem noYL_iff {l : List AV} : noYL l = true ↔ ∀ x ∈ l, x.noY = true := by
  induction l with
  | nil => simp [noYL]
  | cons x r ih => simp [noYL, ih]
theorem pureL_iff {l : List AV} : pureL l = true ↔ ∀ x ∈ l, x.pure = true := by
  induction l with
  | nil => simp [pureL]
  | cons x r ih => simp [pureL, ih]
theorem refsL_iff {l : List AV} {N : Nat} : refsL l ≤ N ↔ ∀ x ∈ l, x.refs ≤ N := by
  induction l with
  | nil => simp [refsL]
  | cons x r ih => simp only [refsL, List.mem_cons, forall_eq_or_imp, ← ih]; omega
theorem pureL_append {a b : List AV} : pureL (a ++ b) = (pureL a && pureL b) := by
  induction a with
  | nil => simp [pureL]
  | cons x r ih => simp [pureL, ih, Bool.and_assoc]
theorem pure_refs (x : AV) (h : x.pure = true) : x.refs = 0 := by
  refine AV.rec (motive_1 := fun x => x.pure = true → x.refs = 0) (motive_2 := fun l => pureL l = true → refsL l = 0) ?_ ?_ ?_ ?_ ?_ ?_ ?_ ?_ ?_ ?_ ?_ ?_ ?_ ?_ ?_ ?_ ?_ ?_ ?_ ?_ x h
  all_goals simp_all [AV.pure, AV.refs, pureL, refsL]

/-- An object of the walk's own: its version (one more with each append), its elements' cells, its elements' type, are all elements pure, its elements. -/
structure AObj where
  ver : Nat
  sz : Nat
  ty : TypeId
  pur : Bool
  xs : List AV
  deriving Inhabited

def lk : List (Nat × AV) → Nat → AV
  | [], _ => .any
  | (t, v) :: r, u => if t = u then v else lk r u
/-- What is round about: blocks that others own; the loop over a function that is being gone round, if there is one: its block, its record, what its frame's temporaries stand for; N: to so many objects these lead. -/
structure Env where
  own : Nat → Prop
  N : Nat
  y : Option (Nat × Loop × List (Nat × AV))
def Env.hide (X : Env) (bs : List (Option Nat)) : Env := ⟨fun b => X.own b ∨ some b ∈ bs, 0, none⟩

/-- What an abstract value stands for. X: blocks that others own. -/
inductive Rep (X : Env) (w : World) (h : List AObj) (bs : List (Option Nat)) : AV → Value → Prop
  | any (v : Value) : Rep X w h bs .any v
  | bool (b : Bool) : Rep X w h bs (.bool b) (.bool b)
  | int (k : IntKind) (n : Int) : Rep X w h bs (.int k n) (.int k n)
  | flt (k : FloatKind) (b : Nat) : Rep X w h bs (.flt k b) (.float k b)
  | str (s : List UInt8) : Rep X w h bs (.str s) (.string ⟨s.toArray⟩)
  | nilp : Rep X w h bs .nilp (.pointer none)
  | nilf : Rep X w h bs .nilf .nilFunc
  | nili : Rep X w h bs .nili .nilIface
  | nils : Rep X w h bs .nils (.slice none 0 0)
  | slE (sz : Nat) (a : Option Addr) (c : Nat) : Rep X w h bs (.sl sz []) (.slice a 0 c)
  | sl (sz : Nat) (xs : List AV) (b off c : Nat) (vs : Nat → Nat → Value) (hne : xs ≠ []) (hp : pureL xs = true) (hc : xs.length ≤ c) (hm : c ≤ maxLen)
      (hlt : b < w.heap.size) (hX : ¬ X.own b) (hb : some b ∉ bs) (hsz : ∀ x ∈ xs, x.cells.length = sz ∧ ∀ y ∈ x.cells, y.one = true)
      (hcell : ∀ (j : Nat) (x : AV) (k : Nat) (y : AV), xs[j]? = some x → x.cells[k]? = some y → w.cell? ⟨b, off + (j * sz + k), none⟩ = some (vs j k))
      (hrep : ∀ (j : Nat) (x : AV) (k : Nat) (y : AV), xs[j]? = some x → x.cells[k]? = some y → Rep X w h bs y (vs j k)) :
      Rep X w h bs (.sl sz xs) (.slice (some ⟨b, off, none⟩) xs.length c)
  | oslN (o ver : Nat) (ob : AObj) (hob : h[o]? = some ob) (hv : ob.ver = ver) (hb : bs[o]? = some none) : Rep X w h bs (.osl o ver 0 0) (.slice none 0 0)
  | osl (o ver off len c : Nat) (ob : AObj) (b : Nat) (C : Array Value) (hob : h[o]? = some ob) (hv : ob.ver = ver) (hb : bs[o]? = some (some b)) (hlen : off + len ≤ ob.xs.length)
      (hlc : len ≤ c) (hcm : c ≤ maxLen) (hC : w.heap[b]? = some (.cells C ob.ty (0, 0))) (hcap : (off + c) * ob.sz = C.size) :
      Rep X w h bs (.osl o ver off len) (.slice (some ⟨b, off * ob.sz, none⟩) len c)
  | oslE (o ver off : Nat) (ob : AObj) (hob : h[o]? = some ob) (hv : ob.ver = ver) (hoff : 0 < off) (a : Option Addr) : Rep X w h bs (.osl o ver off 0) (.slice a 0 0)
  | oslS (o ver off len : Nat) (ob : AObj) (hob : h[o]? = some ob) (hv : ver < ob.ver) (A : Option Addr) (n c : Nat) : Rep X w h bs (.osl o ver off len) (.slice A n c)
  | ptr (o ver i k : Nat) (ob : AObj) (b : Nat) (hob : h[o]? = some ob) (hv : ob.ver = ver) (hb : bs[o]? = some (some b)) :
      Rep X w h bs (.ptr o ver i k) (.pointer (some ⟨b, i * ob.sz + k, none⟩))
  | ptrS (o ver i k : Nat) (ob : AObj) (hob : h[o]? = some ob) (hv : ver < ob.ver) (p : Option Addr) : Rep X w h bs (.ptr o ver i k) (.pointer p)
  | rp (xs : List AV) (b off : Nat) (vs : Nat → Value) (hp : pureL xs = true) (hlt : b < w.heap.size) (hX : ¬ X.own b) (hb : some b ∉ bs) (hone : ∀ y ∈ xs, y.one = true)
      (hcell : ∀ (k : Nat) (y : AV), xs[k]? = some y → w.cell? ⟨b, off + k, none⟩ = some (vs k)) (hrep : ∀ (k : Nat) (y : AV), xs[k]? = some y → Rep X w h bs y (vs k)) :
      Rep X w h bs (.rp xs) (.pointer (some ⟨b, off, none⟩))
  | fn (f : FuncId) (l : List AV) (cs : Array Value) (hl : cs.size = l.length) (hrep : ∀ (j : Nat) (x : AV) (v : Value), l[j]? = some x → cs[j]? = some v → Rep X w h bs x v) : Rep X w h bs (.fn f l) (.func (.func f) #[] cs)
  | iface (t : TypeId) (a : AV) (v : Value) (hv : Rep X w h bs a v) : Rep X w h bs (.iface t a) (.iface t v)
  | agg (l : List AV) (cs : Array Value) (hl : cs.size = l.length) (hrep : ∀ (j : Nat) (x : AV) (v : Value), l[j]? = some x → cs[j]? = some v → Rep X w h bs x v) : Rep X w h bs (.agg l) (.agg cs)
  | tup (l : List AV) (cs : Array Value) (hl : cs.size = l.length) (hrep : ∀ (j : Nat) (x : AV) (v : Value), l[j]? = some x → cs[j]? = some v → Rep X w h bs x v) : Rep X w h bs (.tup l) (.tuple cs)
  | yld (c : Nat × Loop × List (Nat × AV)) (hy : X.y = some c) : Rep X w h bs .yld (.func (.yield c.1) #[] #[])

/-- What is known of the package-level variables: they lie in the first blocks, and hold what they were laid with. -/
class Glob where
  n : Nat
  laid : World → Prop
  kept : ∀ {w w' : World}, (∀ b, b < n → w'.heap[b]? = w.heap[b]?) → laid w → laid w'
  env : Env → Prop
  exc : Option Nat
/-- No loop over a function is gone round. -/
def Glob.top [G : Glob] : Prop := G.exc = none ∧ ∀ X, G.env X ↔ X.y = none ∧ X.N = 0
structure GlobOK [Glob] (w : World) (bs : List (Option Nat)) : Prop where
  laid : Glob.laid w
  size : Glob.n ≤ w.heap.size
  own : ∀ b : Nat, some b ∈ bs → Glob.n ≤ b

/-- The objects lie in the world. -/
structure HeapRel [Glob] (X : Env) (w : World) (h : List AObj) (bs : List (Option Nat)) : Prop where
  len : bs.length = h.length
  inj : ∀ (i j b : Nat), bs[i]? = some (some b) → bs[j]? = some (some b) → i = j
  notX : ∀ b : Nat, some b ∈ bs → ¬ X.own b
  Xlt : ∀ b : Nat, X.own b → b < w.heap.size
  pur : ∀ ob ∈ h, ob.pur = true → pureL ob.xs = true
  shape : ∀ ob ∈ h, ∀ x ∈ ob.xs, x.cells.length = ob.sz ∧ (ob.pur = true → ∀ y ∈ x.cells, y.one = true)
  nil : ∀ (o : Nat) (ob : AObj), h[o]? = some ob → bs[o]? = some none → ob.xs = []
  lies : ∀ (o : Nat) (ob : AObj) (b : Nat), h[o]? = some ob → bs[o]? = some (some b) → ∃ C : Array Value, w.heap[b]? = some (.cells C ob.ty (0, 0)) ∧ ob.xs.length * ob.sz ≤ C.size ∧
    ∀ (j : Nat) (x : AV) (k : Nat) (y : AV), ob.xs[j]? = some x → x.cells[k]? = some y → ∃ v, C[j * ob.sz + k]? = some v ∧ Rep X w h bs y v
  gl : GlobOK w bs
  ev : Glob.env X
  yN : X.N ≤ h.length
  yR : ∀ (l : Nat) (r : Loop) (tm : List (Nat × AV)), X.y = some (l, r, tm) → (w.heap[l]? = some (.loop r) ∧ Glob.n ≤ l) ∧ some l ∉ bs ∧ ∀ t, (lk tm t).refs ≤ X.N ∧ Rep X w h bs (lk tm t) (r.tmps.getD t undef)

/-- What a stretch of a walk keeps. -/
structure Fr (w0 : World) (h0 : List AObj) (bs0 : List (Option Nat)) (w : World) (h : List AObj) (bs : List (Option Nat)) : Prop where
  os : w.os = w0.os
  tape : w.tape = w0.tape
  output : w.output = w0.output
  size : w0.heap.size ≤ w.heap.size
  far : ∀ b : Nat, b < w0.heap.size → some b ∉ bs0 → w.heap[b]? = w0.heap[b]?
  fresh : ∀ b : Nat, some b ∈ bs → b < w0.heap.size → some b ∈ bs0
  obj : ∀ (o : Nat) (ob0 : AObj), h0[o]? = some ob0 → ∃ ob : AObj, h[o]? = some ob ∧ ob.sz = ob0.sz ∧ ob.ty = ob0.ty ∧ ob0.ver ≤ ob.ver ∧ (ob.ver = ob0.ver → bs[o]? = bs0[o]? ∧ ob.xs.length = ob0.xs.length ∧
    ∀ (b : Nat) (C : Array Value) (t : TypeId), bs0[o]? = some (some b) → w0.heap[b]? = some (.cells C t (0, 0)) → ∃ C' : Array Value, w.heap[b]? = some (.cells C' t (0, 0)) ∧ C'.size = C.size)

theorem GlobOK.fr [Glob] {w w' : World} {h h' : List AObj} {bs bs' : List (Option Nat)} (g : GlobOK w bs) (f : Fr w h bs w' h' bs') : GlobOK w' bs' := by
  refine ⟨Glob.kept (fun b hb => f.far b (Nat.lt_of_lt_of_le hb g.size) fun hm => Nat.lt_irrefl _ (Nat.lt_of_lt_of_le hb (g.own b hm))) g.laid, Nat.le_trans g.size f.size, fun b hb => ?_⟩
  by_cases hlt : b < w.heap.size
  · exact g.own b (f.fresh b hb hlt)
  · exact Nat.le_trans g.size (Nat.le_of_not_lt hlt)
theorem GlobOK.sub [Glob] {w : World} {bs bs' : List (Option Nat)} (g : GlobOK w bs) (h : ∀ b : Nat, some b ∈ bs' → some b ∈ bs) : GlobOK w bs' := ⟨g.laid, g.size, fun b hb => g.own b (h b hb)⟩

theorem Fr.refl (w : World) (h : List AObj) (bs : List (Option Nat)) : Fr w h bs w h bs :=
  ⟨rfl, rfl, rfl, Nat.le_refl _, fun _ _ _ => rfl, fun _ hb _ => hb, fun _ ob0 h => ⟨ob0, h, rfl, rfl, Nat.le_refl _, fun _ => ⟨rfl, rfl, fun _ C _ _ hC => ⟨C, hC, rfl⟩⟩⟩⟩

theorem Fr.trans {w0 w1 w2 : World} {h0 h1 h2 : List AObj} {b0 b1 b2 : List (Option Nat)} (p : Fr w0 h0 b0 w1 h1 b1) (q : Fr w1 h1 b1 w2 h2 b2) : Fr w0 h0 b0 w2 h2 b2 := by
  refine ⟨q.os.trans p.os, q.tape.trans p.tape, q.output.trans p.output, Nat.le_trans p.size q.size, ?_, ?_, ?_⟩
  · intro b hb hn
    rw [q.far b (Nat.lt_of_lt_of_le hb p.size) (fun hm => hn (p.fresh b hm hb)), p.far b hb hn]
  · exact fun b hb hlt => p.fresh b (q.fresh b hb (Nat.lt_of_lt_of_le hlt p.size)) hlt
  · intro o ob0 ho
    obtain ⟨ob1, g1, a1, c1, v1, k1⟩ := p.obj o ob0 ho
    obtain ⟨ob2, g2, a2, c2, v2, k2⟩ := q.obj o ob1 g1
    refine ⟨ob2, g2, a2.trans a1, c2.trans c1, Nat.le_trans v1 v2, fun e => ?_⟩
    obtain ⟨x2, y2, z2⟩ := k2 (by omega)
    obtain ⟨x1, y1, z1⟩ := k1 (by omega)
    refine ⟨x2.trans x1, y2.trans y1, fun b C t e1 e2 => ?_⟩
    obtain ⟨C1, f1, s1⟩ := z1 b C t e1 e2
    obtain ⟨C2, f2, s2⟩ := z2 b C1 t (x1.trans e1) f1
    exact ⟨C2, f2, s2.trans s1⟩

theorem cell_far {w0 w : World} {b off : Nat} (h : w.heap[b]? = w0.heap[b]?) : w.cell? ⟨b, off, none⟩ = w0.cell? ⟨b, off, none⟩ :=
  World.cell?_of_block (a := ⟨b, off, none⟩) h

/-- What stood for something goes on standing for it. -/
theorem Rep.fr {X : Env} {w0 w : World} {h0 h : List AObj} {bs0 bs : List (Option Nat)} (p : Fr w0 h0 bs0 w h bs) {a : AV} {v : Value} (r : Rep X w0 h0 bs0 a v) : Rep X w h bs a v := by
  induction r with
  | any v => exact .any v
  | bool b => exact .bool b
  | int k n => exact .int k n
  | flt k b => exact .flt k b
  | str s => exact .str s
  | nilp => exact .nilp
  | nilf => exact .nilf
  | nili => exact .nili
  | nils => exact .nils
  | slE sz a c => exact .slE sz a c
  | sl sz xs b off c vs hne hp hc hm hlt hX hb hsz hcell _ ih =>
    exact .sl sz xs b off c vs hne hp hc hm (Nat.lt_of_lt_of_le hlt p.size) hX (fun hm => hb (p.fresh b hm hlt)) hsz (fun j x k y e1 e2 => (cell_far (p.far b hlt hb)).trans (hcell j x k y e1 e2)) ih
  | oslN o ver ob hob hv hb =>
    obtain ⟨ob1, g1, a1, c1, v1, k1⟩ := p.obj o ob hob
    by_cases e : ob1.ver = ob.ver
    · exact .oslN o ver ob1 g1 (e.trans hv) ((k1 e).1.trans hb)
    · exact .oslS o ver 0 0 ob1 g1 (by omega) _ _ _
  | osl o ver off len c ob b C hob hv hb hlen hlc hcm hC hcap =>
    obtain ⟨ob1, g1, a1, c1, v1, k1⟩ := p.obj o ob hob
    by_cases e : ob1.ver = ob.ver
    · obtain ⟨C', hC', es⟩ := (k1 e).2.2 b C ob.ty hb hC
      rw [← a1]
      exact .osl o ver off len c ob1 b C' g1 (e.trans hv) ((k1 e).1.trans hb) (by rw [(k1 e).2.1]; exact hlen) hlc hcm (by rw [c1]; exact hC') (by rw [a1, es]; exact hcap)
    · exact .oslS o ver off len ob1 g1 (by omega) _ _ _
  | oslE o ver off ob hob hv hoff a =>
    obtain ⟨ob1, g1, a1, c1, v1, k1⟩ := p.obj o ob hob
    by_cases e : ob1.ver = ob.ver
    · exact .oslE o ver off ob1 g1 (e.trans hv) hoff a
    · exact .oslS o ver off 0 ob1 g1 (by omega) _ _ _
  | oslS o ver off len ob hob hv A n c =>
    obtain ⟨ob1, g1, a1, c1, v1, k1⟩ := p.obj o ob hob
    exact .oslS o ver off len ob1 g1 (by omega) _ _ _
  | ptr o ver i k ob b hob hv hb =>
    obtain ⟨ob1, g1, a1, c1, v1, k1⟩ := p.obj o ob hob
    by_cases e : ob1.ver = ob.ver
    · rw [← a1]
      exact .ptr o ver i k ob1 b g1 (e.trans hv) ((k1 e).1.trans hb)
    · exact .ptrS o ver i k ob1 g1 (by omega) _
  | ptrS o ver i k ob hob hv v =>
    obtain ⟨ob1, g1, a1, c1, v1, k1⟩ := p.obj o ob hob
    exact .ptrS o ver i k ob1 g1 (by omega) _
  | rp xs b off vs hp hlt hX hb hone hcell _ ih =>
    exact .rp xs b off vs hp (Nat.lt_of_lt_of_le hlt p.size) hX (fun hm => hb (p.fresh b hm hlt)) hone (fun k y e => (cell_far (p.far b hlt hb)).trans (hcell k y e)) ih
  | fn f l cs hl _ ih => exact .fn f l cs hl ih
  | iface t a v _ ih => exact .iface t a v ih
  | agg l cs hl _ ih => exact .agg l cs hl ih
  | tup l cs hl _ ih => exact .tup l cs hl ih
  | yld c hy => exact .yld c hy

/-- A pure value does not hang on the walk's own objects: these may become another's, and another's may be hidden. -/
theorem Rep.pure_hide {X : Env} {w : World} {h : List AObj} {bs : List (Option Nat)} {a : AV} {v : Value} (r : Rep X w h bs a v) (hp : a.pure = true) :
    Rep (X.hide bs) w [] [] a v := by
  induction r with
  | any v => exact .any v
  | bool b => exact .bool b
  | int k n => exact .int k n
  | flt k b => exact .flt k b
  | str s => exact .str s
  | nilp => exact .nilp
  | nilf => exact .nilf
  | nili => exact .nili
  | nils => exact .nils
  | slE sz a c => exact .slE sz a c
  | sl sz xs b off c vs hne hp' hc hm hlt hX hb hsz hcell hrep ih =>
    exact .sl sz xs b off c vs hne hp' hc hm hlt (by rintro (h | h); exact hX h; exact hb h) (by simp) hsz hcell
      (fun j x k y e1 e2 => ih j x k y e1 e2 (by
        have hx := pureL_iff.1 hp' x (List.mem_of_getElem? e1)
        cases x with
        | agg l => simp only [AV.cells] at e2; simp only [AV.pure] at hx; exact pureL_iff.1 hx y (List.mem_of_getElem? e2)
        | _ => simp only [AV.cells] at e2; cases k <;> simp at e2; subst e2; exact hx))
  | oslN => simp [AV.pure] at hp
  | osl => simp [AV.pure] at hp
  | oslE => simp [AV.pure] at hp
  | oslS => simp [AV.pure] at hp
  | ptr => simp [AV.pure] at hp
  | ptrS => simp [AV.pure] at hp
  | rp xs b off vs hp' hlt hX hb hone hcell _ ih =>
    exact .rp xs b off vs hp' hlt (by rintro (h | h); exact hX h; exact hb h) (by simp) hone hcell (fun k y e => ih k y e (pureL_iff.1 hp' y (List.mem_of_getElem? e)))
  | fn f l cs hl _ ih => simp only [AV.pure] at hp; exact .fn f l cs hl (fun j x v e1 e2 => ih j x v e1 e2 (pureL_iff.1 hp x (List.mem_of_getElem? e1)))
  | iface t a v _ ih => simp only [AV.pure] at hp; exact .iface t a v (ih hp)
  | agg l cs hl _ ih => simp only [AV.pure] at hp; exact .agg l cs hl (fun j x v e1 e2 => ih j x v e1 e2 (pureL_iff.1 hp x (List.mem_of_getElem? e1)))
  | tup l cs hl _ ih => simp only [AV.pure] at hp; exact .tup l cs hl (fun j x v e1 e2 => ih j x v e1 e2 (pureL_iff.1 hp x (List.mem_of_getElem? e1)))
  | yld c hy => simp [AV.pure] at hp

/-- .. and back: what stands for a pure value while others' blocks are hidden stands for it among them. -/
theorem Rep.pure_show {X : Env} {w : World} {h h1 : List AObj} {bs b1 : List (Option Nat)} {a : AV} {v : Value} (r : Rep (X.hide bs) w h1 b1 a v) (hp : a.pure = true) :
    Rep X w h bs a v := by
  induction r with
  | any v => exact .any v
  | bool b => exact .bool b
  | int k n => exact .int k n
  | flt k b => exact .flt k b
  | str s => exact .str s
  | nilp => exact .nilp
  | nilf => exact .nilf
  | nili => exact .nili
  | nils => exact .nils
  | slE sz a c => exact .slE sz a c
  | sl sz xs b off c vs hne hp' hc hm hlt hX hb hsz hcell hrep ih =>
    exact .sl sz xs b off c vs hne hp' hc hm hlt (fun h => hX (Or.inl h)) (fun h => hX (Or.inr h)) hsz hcell
      (fun j x k y e1 e2 => ih j x k y e1 e2 (by
        have hx := pureL_iff.1 hp' x (List.mem_of_getElem? e1)
        cases x with
        | agg l => simp only [AV.cells] at e2; simp only [AV.pure] at hx; exact pureL_iff.1 hx y (List.mem_of_getElem? e2)
        | _ => simp only [AV.cells] at e2; cases k <;> simp at e2; subst e2; exact hx))
  | oslN => simp [AV.pure] at hp
  | osl => simp [AV.pure] at hp
  | oslE => simp [AV.pure] at hp
  | oslS => simp [AV.pure] at hp
  | ptr => simp [AV.pure] at hp
  | ptrS => simp [AV.pure] at hp
  | rp xs b off vs hp' hlt hX hb hone hcell _ ih =>
    exact .rp xs b off vs hp' hlt (fun h => hX (Or.inl h)) (fun h => hX (Or.inr h)) hone hcell (fun k y e => ih k y e (pureL_iff.1 hp' y (List.mem_of_getElem? e)))
  | fn f l cs hl _ ih => simp only [AV.pure] at hp; exact .fn f l cs hl (fun j x v e1 e2 => ih j x v e1 e2 (pureL_iff.1 hp x (List.mem_of_getElem? e1)))
  | iface t a v _ ih => simp only [AV.pure] at hp; exact .iface t a v (ih hp)
  | agg l cs hl _ ih => simp only [AV.pure] at hp; exact .agg l cs hl (fun j x v e1 e2 => ih j x v e1 e2 (pureL_iff.1 hp x (List.mem_of_getElem? e1)))
  | tup l cs hl _ ih => simp only [AV.pure] at hp; exact .tup l cs hl (fun j x v e1 e2 => ih j x v e1 e2 (pureL_iff.1 hp x (List.mem_of_getElem? e1)))
  | yld c hy => simp [AV.pure] at hp

theorem getElem?_take_some {α : Type} {l : List α} {N o : Nat} {x : α} (h : (l.take N)[o]? = some x) : l[o]? = some x := by
  rw [List.getElem?_take] at h; split at h
  · exact h
  · cases h
theorem getElem?_take_lt {α : Type} {l : List α} {N o : Nat} {x : α} (h : l[o]? = some x) (ho : o < N) : (l.take N)[o]? = some x := by
  rw [List.getElem?_take, if_pos ho]; exact h

/-- Objects may be let go that nothing leads to. -/
theorem Rep.take {X : Env} {w : World} {h : List AObj} {bs : List (Option Nat)} {a : AV} {v : Value} (N : Nat) (r : Rep X w h bs a v) (hp : a.refs ≤ N) :
    Rep X w (h.take N) (bs.take N) a v := by
  induction r with
  | any v => exact .any v
  | bool b => exact .bool b
  | int k n => exact .int k n
  | flt k b => exact .flt k b
  | str s => exact .str s
  | nilp => exact .nilp
  | nilf => exact .nilf
  | nili => exact .nili
  | nils => exact .nils
  | slE sz a c => exact .slE sz a c
  | sl sz xs b off c vs hne hp' hc hm hlt hX hb hsz hcell hrep ih =>
    exact .sl sz xs b off c vs hne hp' hc hm hlt hX (fun h => hb (List.mem_of_mem_take h)) hsz hcell
      (fun j x k y e1 e2 => ih j x k y e1 e2 (by
        have hx := pureL_iff.1 hp' x (List.mem_of_getElem? e1)
        have : y.pure = true := by
          cases x with
          | agg l => simp only [AV.cells] at e2; simp only [AV.pure] at hx; exact pureL_iff.1 hx y (List.mem_of_getElem? e2)
          | _ => simp only [AV.cells] at e2; cases k <;> simp at e2; subst e2; exact hx
        rw [pure_refs y this]; exact Nat.zero_le _))
  | oslN o ver ob hob hv hb => simp only [AV.refs] at hp; exact .oslN o ver ob (getElem?_take_lt hob (by omega)) hv (getElem?_take_lt hb (by omega))
  | osl o ver off len c ob b C hob hv hb hlen hlc hcm hC hcap => simp only [AV.refs] at hp; exact .osl o ver off len c ob b C (getElem?_take_lt hob (by omega)) hv (getElem?_take_lt hb (by omega)) hlen hlc hcm hC hcap
  | oslE o ver off ob hob hv hoff a => simp only [AV.refs] at hp; exact .oslE o ver off ob (getElem?_take_lt hob (by omega)) hv hoff a
  | oslS o ver off len ob hob hv A n c => simp only [AV.refs] at hp; exact .oslS o ver off len ob (getElem?_take_lt hob (by omega)) hv A n c
  | ptr o ver i k ob b hob hv hb => simp only [AV.refs] at hp; exact .ptr o ver i k ob b (getElem?_take_lt hob (by omega)) hv (getElem?_take_lt hb (by omega))
  | ptrS o ver i k ob hob hv v => simp only [AV.refs] at hp; exact .ptrS o ver i k ob (getElem?_take_lt hob (by omega)) hv v
  | rp xs b off vs hp' hlt hX hb hone hcell _ ih =>
    exact .rp xs b off vs hp' hlt hX (fun h => hb (List.mem_of_mem_take h)) hone hcell (fun k y e => ih k y e (by rw [pure_refs y (pureL_iff.1 hp' y (List.mem_of_getElem? e))]; exact Nat.zero_le _))
  | fn f l cs hl _ ih => simp only [AV.refs] at hp; exact .fn f l cs hl (fun j x v e1 e2 => ih j x v e1 e2 (refsL_iff.1 hp x (List.mem_of_getElem? e1)))
  | iface t a v _ ih => simp only [AV.refs] at hp; exact .iface t a v (ih hp)
  | agg l cs hl _ ih => simp only [AV.refs] at hp; exact .agg l cs hl (fun j x v e1 e2 => ih j x v e1 e2 (refsL_iff.1 hp x (List.mem_of_getElem? e1)))
  | tup l cs hl _ ih => simp only [AV.refs] at hp; exact .tup l cs hl (fun j x v e1 e2 => ih j x v e1 e2 (refsL_iff.1 hp x (List.mem_of_getElem? e1)))
  | yld c hy => exact .yld c hy

theorem yR_fr [Glob] {X : Env} {w w' : World} {h h' : List AObj} {bs bs' : List (Option Nat)} (f : Fr w h bs w' h' bs')
    (g : ∀ (l : Nat) (r : Loop) (tm : List (Nat × AV)), X.y = some (l, r, tm) → (w.heap[l]? = some (.loop r) ∧ Glob.n ≤ l) ∧ some l ∉ bs ∧ ∀ t, (lk tm t).refs ≤ X.N ∧ Rep X w h bs (lk tm t) (r.tmps.getD t undef)) :
    ∀ (l : Nat) (r : Loop) (tm : List (Nat × AV)), X.y = some (l, r, tm) → (w'.heap[l]? = some (.loop r) ∧ Glob.n ≤ l) ∧ some l ∉ bs' ∧ ∀ t, (lk tm t).refs ≤ X.N ∧ Rep X w' h' bs' (lk tm t) (r.tmps.getD t undef) := by
  intro l r tm e
  obtain ⟨⟨h1, h0⟩, h2, h3⟩ := g l r tm e
  have hlt := (Array.getElem?_eq_some_iff.1 h1).1
  exact ⟨⟨(f.far l hlt h2).trans h1, h0⟩, fun hm => h2 (f.fresh l hm hlt), fun t => ⟨(h3 t).1, (h3 t).2.fr f⟩⟩
end Go.Pe
