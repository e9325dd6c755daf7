/- Operations of the calculus 'Pe' that lay or turn an object of the walk's own, calls and panics: that they are sound. No program in sight; no conditions. -/
import Derived.Test.YtmgoencdjkaobaaGreatDoorPeZ
import Derived.Maps.AppendAt
import Derived.Laws.CopyRow
import Derived.Laws.OwnMore
set_option linter.unusedVariables false
set_option linter.unusedSimpArgs false
namespace Go.Pe

section
variable [Glob] {X : Env} {P : Program} {w : World} {h : List AObj} {bs : List (Option Nat)}

omit [Glob] in
theorem Rep.oneCell {v : AV} {x : Value} (r : Rep X w h bs v x) (hk : v.one = true) : x.oneCell' = true := by
  cases r <;> first | rfl | cases hk

/-- An object's elements may be turned in place. -/
theorem HeapRel.put (r : HeapRel X w h bs) {o b : Nat} {ob ob' : AObj} {C C' : Array Value} (ho : h[o]? = some ob) (hb : bs[o]? = some (some b)) (hC : w.heap[b]? = some (.cells C ob.ty (0, 0))) (hs : C'.size = C.size)
    (hsz : ob'.sz = ob.sz) (hty : ob'.ty = ob.ty) (hver : ob'.ver = ob.ver) (hlen : ob'.xs.length = ob.xs.length) (hp : ob'.pur = true → pureL ob'.xs = true) (hsh : ∀ x ∈ ob'.xs, x.cells.length = ob'.sz ∧ (ob'.pur = true → ∀ y ∈ x.cells, y.one = true))
    (hx : ∀ (j : Nat) (x : AV) (k : Nat) (y : AV), ob'.xs[j]? = some x → x.cells[k]? = some y → ∃ v, C'[j * ob.sz + k]? = some v ∧ Rep X w h bs y v) :
    HeapRel X (w.setRow b C') (h.set o ob') bs ∧ Fr w h bs (w.setRow b C') (h.set o ob') bs := by
  have hol : o < h.length := (List.getElem?_eq_some_iff.1 ho).1
  have hh : (w.setRow b C').heap[b]? = some (.cells C' ob.ty (0, 0)) := setRow_heap w b C C' ob.ty (0, 0) hC
  have hother : ∀ k, k ≠ b → (w.setRow b C').heap[k]? = w.heap[k]? := fun k hk => setRow_other w b k C' hk
  have hbm : some b ∈ bs := List.mem_of_getElem? hb
  have hsize : (w.setRow b C').heap.size = w.heap.size := size_setRow w b C'
  have hget : ∀ i x, (h.set o ob')[i]? = some x → (i = o ∧ x = ob') ∨ (i ≠ o ∧ h[i]? = some x) := by
    intro i x e
    rw [List.getElem?_set] at e
    split at e
    · rename_i e1; subst e1; cases e; exact .inl ⟨rfl, rfl⟩
    · rename_i e1; exact .inr ⟨fun e2 => e1 e2.symm, e⟩
  have f : Fr w h bs (w.setRow b C') (h.set o ob') bs := by
    refine ⟨rfl, rfl, rfl, by rw [hsize]; exact Nat.le_refl _, fun k hk hn => hother k (fun e => hn (e ▸ hbm)), fun k hm _ => hm, fun i ob0 e => ?_⟩
    by_cases hi : i = o
    · subst hi
      rw [ho] at e; cases e
      refine ⟨ob', by rw [List.getElem?_set_self hol], hsz, hty, by omega, fun _ => ⟨rfl, hlen, fun k D t e1 e2 => ?_⟩⟩
      rw [hb] at e1; cases e1
      rw [hC] at e2; cases e2
      exact ⟨C', hh, hs⟩
    · refine ⟨ob0, by rw [List.getElem?_set_ne (fun e => hi e.symm)]; exact e, rfl, rfl, Nat.le_refl _, fun _ => ⟨rfl, rfl, fun k D t e1 e2 => ?_⟩⟩
      have : k ≠ b := fun e => hi (r.inj i o b (e ▸ e1) hb)
      exact ⟨D, (hother k this).trans e2, rfl⟩
  refine ⟨⟨by simp [r.len], r.inj, r.notX, fun k hk => by rw [hsize]; exact r.Xlt k hk, ?_, ?_, ?_, ?_, r.gl.fr f, r.ev, by simpa using r.yN, yR_fr f r.yR⟩, f⟩
  · intro x hm
    rcases List.mem_or_eq_of_mem_set hm with hm | rfl
    · exact r.pur x hm
    · exact hp
  · intro x hm
    rcases List.mem_or_eq_of_mem_set hm with hm | rfl
    · exact r.shape x hm
    · exact hsh
  · intro i x e1 e2
    rcases hget i x e1 with ⟨rfl, rfl⟩ | ⟨hi, e1⟩
    · rw [hb] at e2; cases e2
    · exact r.nil i x e1 e2
  · intro i x k e1 e2
    rcases hget i x e1 with ⟨rfl, rfl⟩ | ⟨hi, e1⟩
    · rw [hb] at e2; cases e2
      refine ⟨C', by rw [hty]; exact hh, ?_, fun j x k y g1 g2 => ?_⟩
      · obtain ⟨D, hD, hs2, _⟩ := r.lies i ob b ho hb
        rw [hC] at hD; cases hD
        rw [hlen, hsz, hs]; exact hs2
      · rw [hsz]
        obtain ⟨v, g3, g4⟩ := hx j x k y g1 g2
        exact ⟨v, g3, g4.fr f⟩
    · obtain ⟨D, hD, hs2, hx2⟩ := r.lies i x k e1 e2
      have : k ≠ b := fun e => hi (r.inj i o b (e ▸ e2) hb)
      exact ⟨D, (hother k this).trans hD, hs2, fun j y q z g1 g2 => (hx2 j y q z g1 g2).imp fun v hv => ⟨hv.1, hv.2.fr f⟩⟩

/-- An object may be replaced by one of a later version, in its own block or a new one. -/
theorem HeapRel.grow {w' : World} (r : HeapRel X w h bs) {o : Nat} {ob ob' : AObj} (nb old : Option Nat) (ho : h[o]? = some ob) (hb : bs[o]? = some old) (hos : w'.os = w.os) (htp : w'.tape = w.tape) (hout : w'.output = w.output) (hsize : w.heap.size ≤ w'.heap.size)
    (hblk : ∀ k, k < w.heap.size → some k ≠ old → w'.heap[k]? = w.heap[k]?) (hnb : nb = old ∨ nb = some w.heap.size)
    (hsz : ob'.sz = ob.sz) (hty : ob'.ty = ob.ty) (hver : ob.ver < ob'.ver) (hp : ob'.pur = true → pureL ob'.xs = true) (hsh : ∀ x ∈ ob'.xs, x.cells.length = ob'.sz ∧ (ob'.pur = true → ∀ y ∈ x.cells, y.one = true))
    (hnil : nb = none → ob'.xs = [])
    (hx : ∀ k, nb = some k → ∃ C' : Array Value, w'.heap[k]? = some (.cells C' ob.ty (0, 0)) ∧ ob'.xs.length * ob.sz ≤ C'.size ∧ ∀ (j : Nat) (x : AV) (k : Nat) (y : AV), ob'.xs[j]? = some x → x.cells[k]? = some y → ∃ v, C'[j * ob.sz + k]? = some v ∧ Rep X w h bs y v) :
    HeapRel X w' (h.set o ob') (bs.set o nb) ∧ Fr w h bs w' (h.set o ob') (bs.set o nb) := by
  have hol : o < h.length := (List.getElem?_eq_some_iff.1 ho).1
  have hobl : o < bs.length := (List.getElem?_eq_some_iff.1 hb).1
  have hlt : ∀ i k : Nat, bs[i]? = some (some k) → k < w.heap.size := by
    intro i k e
    have hi : i < h.length := by rw [← r.len]; exact (List.getElem?_eq_some_iff.1 e).1
    obtain ⟨C, hC, _⟩ := r.lies i h[i] k (List.getElem?_eq_getElem hi) e
    exact (Array.getElem?_eq_some_iff.1 hC).1
  have hget : ∀ i x, (h.set o ob')[i]? = some x → (i = o ∧ x = ob') ∨ (i ≠ o ∧ h[i]? = some x) := by
    intro i x e
    rw [List.getElem?_set] at e
    split at e
    · rename_i e1; subst e1; cases e; exact .inl ⟨rfl, rfl⟩
    · rename_i e1; exact .inr ⟨fun e2 => e1 e2.symm, e⟩
  have hgetb : ∀ i x, (bs.set o nb)[i]? = some x → (i = o ∧ x = nb) ∨ (i ≠ o ∧ bs[i]? = some x) := by
    intro i x e
    rw [List.getElem?_set] at e
    split at e
    · rename_i e1; subst e1; cases e; exact .inl ⟨rfl, rfl⟩
    · rename_i e1; exact .inr ⟨fun e2 => e1 e2.symm, e⟩
  have hoth : ∀ i k, i ≠ o → bs[i]? = some (some k) → some k ≠ old := fun i k hi e e2 => hi (r.inj i o k e (by rw [hb, ← e2]))
  have f : Fr w h bs w' (h.set o ob') (bs.set o nb) := by
    refine ⟨hos, htp, hout, hsize, fun k hk hn => hblk k hk (fun e => hn (e ▸ List.mem_of_getElem? hb)), fun k hm hk => ?_, fun i ob0 e => ?_⟩
    · rcases List.mem_or_eq_of_mem_set hm with hm | e
      · exact hm
      · rcases hnb with h1 | h1
        · rw [e, h1]; exact List.mem_of_getElem? hb
        · rw [h1] at e; cases e; omega
    · by_cases hi : i = o
      · subst hi
        rw [ho] at e; cases e
        exact ⟨ob', by rw [List.getElem?_set_self hol], hsz, hty, by omega, fun e => by omega⟩
      · refine ⟨ob0, by rw [List.getElem?_set_ne (fun e => hi e.symm)]; exact e, rfl, rfl, Nat.le_refl _, fun _ => ⟨by rw [List.getElem?_set_ne (fun e => hi e.symm)], rfl, fun k D t e1 e2 => ?_⟩⟩
        exact ⟨D, (hblk k (hlt i k e1) (hoth i k hi e1)).trans e2, rfl⟩
  refine ⟨⟨by simp [r.len], ?_, ?_, fun k hk => Nat.lt_of_lt_of_le (r.Xlt k hk) hsize, ?_, ?_, ?_, ?_, r.gl.fr f, r.ev, by simpa using r.yN, yR_fr f r.yR⟩, f⟩
  · intro i j k e1 e2
    rcases hgetb i _ e1 with ⟨q1, p1⟩ | ⟨hi, p1⟩ <;> rcases hgetb j _ e2 with ⟨q2, p2⟩ | ⟨hj, p2⟩
    · omega
    · rcases hnb with h1 | h1
      · exact absurd (p1.trans h1) (hoth j k hj p2)
      · rw [h1] at p1; cases p1; have := hlt j _ p2; omega
    · rcases hnb with h1 | h1
      · exact absurd (p2.trans h1) (hoth i k hi p1)
      · rw [h1] at p2; cases p2; have := hlt i _ p1; omega
    · exact r.inj i j k p1 p2
  · intro k hm hx
    rcases List.mem_or_eq_of_mem_set hm with hm | e
    · exact r.notX k hm hx
    · rcases hnb with h1 | h1
      · exact r.notX k (by rw [e, h1]; exact List.mem_of_getElem? hb) hx
      · rw [h1] at e; cases e; have := r.Xlt _ hx; omega
  · intro x hm
    rcases List.mem_or_eq_of_mem_set hm with hm | rfl
    · exact r.pur x hm
    · exact hp
  · intro x hm
    rcases List.mem_or_eq_of_mem_set hm with hm | rfl
    · exact r.shape x hm
    · exact hsh
  · intro i x e1 e2
    rcases hget i x e1 with ⟨rfl, rfl⟩ | ⟨hi, e1⟩
    · rcases hgetb i _ e2 with ⟨_, e2⟩ | ⟨hi, e2⟩
      · exact hnil e2.symm
      · exact absurd rfl hi
    · rcases hgetb i _ e2 with ⟨h1, e2⟩ | ⟨_, e2⟩
      · exact absurd h1 hi
      · exact r.nil i x e1 e2
  · intro i x k e1 e2
    rcases hget i x e1 with ⟨rfl, rfl⟩ | ⟨hi, e1⟩
    · rcases hgetb i _ e2 with ⟨_, e2⟩ | ⟨hi, e2⟩
      · obtain ⟨C', hC', hs', hx'⟩ := hx k e2.symm
        exact ⟨C', by rw [hty]; exact hC', by rw [hsz]; exact hs', fun j y q z g1 g2 => by
          rw [hsz]
          obtain ⟨v, g3, g4⟩ := hx' j y q z g1 g2
          exact ⟨v, g3, g4.fr f⟩⟩
      · exact absurd rfl hi
    · rcases hgetb i _ e2 with ⟨h1, e2⟩ | ⟨_, e2⟩
      · exact absurd h1 hi
      · obtain ⟨D, hD, hs2, hx2⟩ := r.lies i x k e1 e2
        exact ⟨D, (hblk k (hlt i k e2) (hoth i k hi e2)).trans hD, hs2, fun j y q z g1 g2 => (hx2 j y q z g1 g2).imp fun v hv => ⟨hv.1, hv.2.fr f⟩⟩
end


/-- May a function be entered? -/
def callOK (P : Program) (f : FuncId) : Bool :=
  match P.funcs[f]? with
  | some fn => !(fn.name == "runtime.NumGoroutine") && fn.body.isSome
  | none => false
def okL (sz : Nat) (xs : List AV) : Bool := xs.all fun x => x.pure && (x.cells.length == sz) && x.cells.all AV.one
/-- An element with some of its cells turned. -/
def putc (y : AV) (k n : Nat) (x : AV) : AV :=
  match y with
  | .agg l => .agg (l.take k ++ x.cells ++ l.drop (k + n))
  | _ => x

inductive AOp where
  | e (x : AExp)
  | alloc (sz ty : Nat) (z : AV)
  | box (sz ty : Nat) (x : Opd)
  | store (n : Nat) (p x : Opd)
  | app (sz ty bytes : Nat) (x y : Opd)
  | bsl (sz ty : Nat) (l : List Opd)
  | lit (sz : Nat) (l : List Opd)
  | call (f : FuncId) (l : List Opd)
  | callV (f : FuncId) (l : List Opd)
  | cval (g : Opd) (l : List Opd)
  | cvalV (g : Opd) (l : List Opd)
  | yld (g : Opd) (l : List Opd)
  | callP (f : FuncId) (l : List Opd)
  | cvalP (g : Opd) (l : List Opd)
  | callO (f : FuncId) (l : List Opd)
  | cvalO (g : Opd) (l : List Opd)
  | pan (x : Opd)
  deriving Inhabited

/-- What a row is appended to. -/
def appTo (sz ty bytes : Nat) (h : List AObj) (x : AV) (ys : List AV) (K : AV → List AObj → Prop) : Prop :=
  match x with
  | .nils => ys.length * bytes ≤ 140737488355328 ∧ K (.osl h.length 0 0 ys.length) (h ++ [⟨0, sz, ty, true, ys⟩])
  | .osl o ver off len => match h[o]? with
    | some ob => (ob.ver = ver ∧ ob.sz = sz ∧ ob.ty = ty ∧ ob.pur = true ∧ off = 0 ∧ len = ob.xs.length ∧ (len + ys.length) * bytes ≤ 140737488355328) ∧
        K (.osl o (ver + 1) 0 (len + ys.length)) (h.set o { ob with ver := ver + 1, xs := ob.xs ++ ys })
    | none => False
  | _ => False

def astep [Glob] (P : Program) (h : List AObj) (tm : List (Nat × AV)) (K Qp : AV → List AObj → Prop) : AOp → Prop
  | .e x => aval h tm x fun v => K v h
  | .alloc sz ty z => K (.ptr h.length 0 0 0) (h ++ [⟨0, sz, ty, false, [z]⟩])
  | .box sz ty x => ((ev tm x).kn = true ∧ (ev tm x).cells.length = sz) ∧ K (.ptr h.length 0 0 0) (h ++ [⟨0, sz, ty, false, [ev tm x]⟩])
  | .store n p x => match ev tm p with
    | .ptr o ver i k => match h[o]? with
      | some ob => match ob.xs[i]? with
        | some y => (ob.ver = ver ∧ k + n ≤ ob.sz ∧ (ev tm x).cells.length = n ∧ (ev tm x).cells.all AV.one = true ∧ (ob.pur = true → (ev tm x).pure = true)) ∧
            K .any (h.set o { ob with xs := ob.xs.set i (putc y k n (ev tm x)) })
        | none => False
      | none => False
    | _ => False
  | .app sz ty bytes x y => match ev tm y with
    | .sl sz' ys => sz' = sz ∧ appTo sz ty bytes h (ev tm x) ys K
    | .nils => appTo sz ty bytes h (ev tm x) [] K
    | .osl o ver off len => match h[o]? with
      | some ob => (ob.ver = ver ∧ ob.sz = sz ∧ ob.pur = true) ∧ appTo sz ty bytes h (ev tm x) ((ob.xs.drop off).take len) K
      | none => False
    | _ => False
  | .bsl sz ty l => okL sz (l.map (ev tm)) = true ∧ K (.osl h.length 0 0 l.length) (h ++ [⟨0, sz, ty, true, l.map (ev tm)⟩])
  | .lit sz l => okL sz (l.map (ev tm)) = true ∧ K (.sl sz (l.map (ev tm))) h
  | .callV f l => ∃ v, V P f (l.map (ev tm)) (.ret v) ∧ K v h
  | .call f l => VH P f (l.map (ev tm)) h fun o h' => match o with
    | .ret v => K v h'
    | .pan v => Qp v h'
  | .cval g l => match ev tm g with
    | .fn f cap => callOK P f = true ∧ VH P f (l.map (ev tm) ++ cap) h fun o h' => match o with
      | .ret v => K v h'
      | .pan v => Qp v h'
    | _ => False
  | .cvalV g l => match ev tm g with
    | .fn f cap => callOK P f = true ∧ ∃ v, V P f (l.map (ev tm) ++ cap) (.ret v) ∧ K v h
    | _ => False
  | .callO f l => ∃ v, (Glob.top ∧ V P f (frzL 0 h (l.map (ev tm))) (.ret v) ∧ pureL (frzL 0 h (l.map (ev tm))) = true ∧ v.scal = true) ∧ K v h
  | .cvalO g l => match ev tm g with
    | .fn f cap => callOK P f = true ∧ ∃ v, (Glob.top ∧ V P f (frzL 0 h (l.map (ev tm) ++ cap)) (.ret v) ∧ pureL (frzL 0 h (l.map (ev tm) ++ cap)) = true ∧ v.scal = true) ∧ K v h
    | _ => False
  | .callP f l => ∃ o, V P f (l.map (ev tm)) o ∧ match o with
    | .ret v => K v h
    | .pan v => Qp v h
  | .cvalP g l => match ev tm g with
    | .fn f cap => callOK P f = true ∧ ∃ o, V P f (l.map (ev tm) ++ cap) o ∧ match o with
      | .ret v => K v h
      | .pan v => Qp v h
    | _ => False
  | .yld g l => match ev tm g with
    | .yld => VY P (l.map (ev tm)) h fun o h' => match o with
      | .ret v => K v h'
      | .pan v => Qp v h'
    | _ => False
  | .pan x => match ev tm x with
    | .iface t v => Qp (.iface t v) h
    | _ => False

/-- A slice literal's parts, all of them and in order. -/
def litParts : Nat → List (Nat × Operand) → Option (List Operand)
  | _, [] => some []
  | n, (i, x) :: r => if i = n then (litParts (n + 1) r).map (x :: ·) else none

/-- What an operation is, by its kind; where there is more than one reading: as told. -/
def compF (P : Program) (hint : AOp) (op : Op) : Option AOp :=
  match op with
  | .alloc t => match P.info? t with
    | some i => match i.zero with
      | some z => match constV z with
        | some v => if v.cells.length = i.size ∧ v.kn = true then some (.alloc i.size t v) else none
        | none => none
      | none => none
    | none => none
  | .box t x => match P.info? t, compO x with
    | some i, some x => some (.box i.size t x)
    | _, _ => none
  | .store t p x => match P.info? t, compO p, compO x with
    | some i, some p, some x => if 0 < i.size then some (.store i.size p x) else none
    | _, _, _ => none
  | .panic x => (compO x).map .pan
  | .call c => match c.callee with
    | .builtin .append => match c.args.toList, c.argTypes.toList with
      | [x, y], [t, u] => match P.underlying t, compO x, compO y with
        | some (.slice e), some x, some y => match P.info? e with
          | some i => match i.zero with
            | some z => if t = u ∧ z.cells.size = i.size ∧ 0 < i.size ∧ 0 < i.bytes then some (.app i.size e i.bytes x y) else none
            | none => none
          | none => none
        | _, _, _ => none
      | _, _ => none
    | .builtin .panic => match c.args.toList with
      | [x] => (compO x).map .pan
      | _ => none
    | .value (.func f) => if callOK P f then (compOs c.args.toList).map (match hint with
        | .callV .. => .callV f
        | .callP .. => .callP f
        | .callO .. => .callO f
        | _ => .call f) else none
    | .value g => match compO g, compOs c.args.toList with
      | some g, some l => some (match hint with
        | .cvalV .. => .cvalV g l
        | .yld .. => .yld g l
        | .cvalP .. => .cvalP g l
        | .cvalO .. => .cvalO g l
        | _ => .cval g l)
      | _, _ => none
    | _ => (compE P op).map .e
  | .buildSlice t n ps => match P.underlying t with
    | some (.slice e) => match P.info? e, litParts 0 ps.toList with
      | some i, some l => match compOs l, i.zero with
        | some m, some z => if m.length = n ∧ n * i.size ≤ 16777216 ∧ 0 < i.size ∧ z.cells.size = i.size then some (match hint with
          | .lit .. => .lit i.size m
          | _ => .bsl i.size e m) else none
        | _, _ => none
      | _, _ => none
    | _ => none
  | _ => (compE P op).map .e

def putTm (tm : List (Nat × AV)) : Option Nat → AV → List (Nat × AV)
  | some d, v => (d, v) :: tm
  | none, _ => tm
/-- How a step goes on, as the world sees it. -/
def Goes [Glob] (X : Env) (lo : Option Nat) (w0 : World) (h0 : List AObj) (b0 : List (Option Nat)) (s : St) (d : Option Nat) (K : AV → List AObj → Prop) (a' : Act) (w' : World) : Prop :=
  ∃ v h' bs', K v h' ∧ StRel X lo w' a' bs' { s with tm := putTm s.tm d v, h := h' } ∧ Fr w0 h0 b0 w' h' bs'
def Pans [Glob] (X : Env) (lo : Option Nat) (w0 : World) (h0 : List AObj) (b0 : List (Option Nat)) (Qp : AV → List AObj → Prop) : Exit → Act → World → Prop
  | .panic ch, a, w => ∃ v x h bs w1, Poked w1 w ∧ ch = [{ v := x, recovered := false }] ∧ Qp v h ∧ HeapRel X w1 h bs ∧ Rep X w1 h bs v x ∧ Fr w0 h0 b0 w1 h bs ∧ Marks lo w1 bs a.defers
  | _, _, _ => False

section
variable [Glob] {X : Env} {lo : Option Nat} {P : Program} {w w0 : World} {h0 : List AObj} {b0 : List (Option Nat)} {a : Act} {bs : List (Option Nat)} {s : St} {o : Oper} {K Qp : AV → List AObj → Prop}

theorem StRel.put {w' : World} {h' : List AObj} {bs' : List (Option Nat)} (r : StRel X lo w a bs s) (hh : HeapRel X w' h' bs') (f : Fr w s.h bs w' h' bs') {v : AV} {x : Value} (hv : Rep X w' h' bs' v x) (d : Option Nat) (hd : ∀ k, d = some k → k < s.nt) :
    StRel X lo w' (a.put d x) bs' { s with tm := putTm s.tm d v, h := h' } := by
  cases d with
  | none => exact ⟨hh, r.nt, fun t => (r.tm t).fr f, r.df.fr f, r.bn⟩
  | some k =>
    refine ⟨hh, by simp [Act.put, r.nt], fun t => ?_, r.df.fr f, r.bn⟩
    simp only [Act.put, putTm, lk]
    have hk : k < a.tmps.size := by rw [r.nt]; exact hd k rfl
    split
    · rename_i e; subst e
      rw [Array.getD_eq_getD_getElem?, Array.getElem?_setIfInBounds_self_of_lt hk]
      exact hv
    · rename_i e
      rw [Array.getD_eq_getD_getElem?, Array.getElem?_setIfInBounds_ne e, ← Array.getD_eq_getD_getElem?]
      exact (r.tm t).fr f

theorem goes_value {w' : World} {h' : List AObj} {bs' : List (Option Nat)} {v : AV} {x : Value} (r : StRel X lo w a bs s) (f0 : Fr w0 h0 b0 w s.h bs) (hd : ∀ k, o.dst = some k → k < s.nt) (hr : (execOp a.eval o).run P w = .ok (.value x) w')
    (hh : HeapRel X w' h' bs') (f : Fr w s.h bs w' h' bs') (hv : Rep X w' h' bs' v x) (k : K v h') : o.wp P a w (Goes X lo w0 h0 b0 s o.dst K) (Pans X lo w0 h0 b0 Qp) := by
  unfold Oper.wp
  rw [hr, Oper.upon_value]
  exact ⟨v, h', bs', k, r.put hh f hv o.dst hd, f0.trans f⟩

omit [Glob] in
theorem below_alloc (w : World) (ob : Obj) : Go.RowKit.Below w.heap.size w (w.alloc ob) := (Go.RowKit.Below.refl _ _).alloc (Nat.le_refl _) _

/-- A new variable. -/
theorem goes_new {ty : TypeId} {v : AV} {x : Value} (r : StRel X lo w a bs s) (f0 : Fr w0 h0 b0 w s.h bs) (hd : ∀ k, o.dst = some k → k < s.nt) {sz : Nat}
    (hr : (execOp a.eval o).run P w = .ok (.value (.pointer (some ⟨w.heap.size, 0, none⟩))) (w.alloc (.cells x.cells ty))) (hv : Rep X w s.h bs v x) (hk : v.kn = true) (hl : v.cells.length = sz)
    (k : K (.ptr s.h.length 0 0 0) (s.h ++ [⟨0, sz, ty, false, [v]⟩])) : o.wp P a w (Goes X lo w0 h0 b0 s o.dst K) (Pans X lo w0 h0 b0 Qp) := by
  have hb := below_alloc w (.cells x.cells ty)
  obtain ⟨hc1, hc2⟩ := hv.cells hk
  have hh := r.heap.push hb ⟨0, sz, ty, false, [v]⟩ (some w.heap.size) (fun k e => by cases e; exact Nat.le_refl _) (by simp) (by simp [hl]) (by simp) (fun k e => by
    cases e
    refine ⟨x.cells, heap_alloc_new w _, by simp [hc1, hl], fun j y i z e1 e2 => ?_⟩
    cases j with
    | succ j => simp at e1
    | zero =>
      simp at e1; subst e1
      have hi : i < x.cells.size := by rw [hc1]; exact (List.getElem?_eq_some_iff.1 e2).1
      refine ⟨x.cells[i], by simp [hi], hc2 i z _ e2 (Array.getElem?_eq_getElem hi)⟩)
  have hf := Fr.push r.heap hb ⟨0, sz, ty, false, [v]⟩ (some w.heap.size) (fun k e => by cases e; exact Nat.le_refl _)
  refine goes_value r f0 hd hr hh hf ?_ k
  have := Rep.ptr (X := X) (w := w.alloc (.cells x.cells ty)) (h := s.h ++ [⟨0, sz, ty, false, [v]⟩]) (bs := bs ++ [some w.heap.size]) s.h.length 0 0 0 ⟨0, sz, ty, false, [v]⟩ w.heap.size (by simp) rfl (by rw [← r.heap.len]; simp)
  simpa using this

theorem f_alloc {t : TypeId} {i : TypeInfo} {z : Value} {v : AV} (hi : P.info? t = some i) (hz : i.zero = some z) (hv : constV z = some v) (h1 : v.cells.length = i.size) (hkn : v.kn = true) (ho : o.op = .alloc t)
    (r : StRel X lo w a bs s) (f0 : Fr w0 h0 b0 w s.h bs) (hd : ∀ k, o.dst = some k → k < s.nt) (k : astep P s.h s.tm K Qp (.alloc i.size t v)) : o.wp P a w (Goes X lo w0 h0 b0 s o.dst K) (Pans X lo w0 h0 b0 Qp) := by
  refine goes_new (x := z) (v := v) (ty := t) r f0 hd ?_ (constV_rep hv) hkn h1 k
  simp [execOp, ho, Instr.alloc, zeroValue, typeInfo, hi, hz, newVar, newRow]

theorem f_box {t : TypeId} {i : TypeInfo} {x : Operand} {x' : Opd} (hi : P.info? t = some i) (hx : compO x = some x') (ho : o.op = .box t x)
    (r : StRel X lo w a bs s) (f0 : Fr w0 h0 b0 w s.h bs) (hd : ∀ k, o.dst = some k → k < s.nt) (k : astep P s.h s.tm K Qp (.box i.size t x')) : o.wp P a w (Goes X lo w0 h0 b0 s o.dst K) (Pans X lo w0 h0 b0 Qp) := by
  obtain ⟨⟨k1, k2⟩, k⟩ := k
  refine goes_new (x := a.eval x) (v := ev s.tm x') (ty := t) r f0 hd ?_ (r.opd hx) k1 k2 k
  simp [execOp, ho, Instr.box, newVar, newRow]

theorem goes_skip {w' : World} {h' : List AObj} {bs' : List (Option Nat)} (r : StRel X lo w a bs s) (f0 : Fr w0 h0 b0 w s.h bs) (hd : ∀ k, o.dst = some k → k < s.nt) (hr : (execOp a.eval o).run P w = .ok .skip w')
    (hh : HeapRel X w' h' bs') (f : Fr w s.h bs w' h' bs') (k : K .any h') : o.wp P a w (Goes X lo w0 h0 b0 s o.dst K) (Pans X lo w0 h0 b0 Qp) := by
  unfold Oper.wp
  rw [hr, Oper.upon_skip]
  exact ⟨.any, h', bs', k, r.put hh f (.any _) o.dst hd, f0.trans f⟩

omit [Glob] in
theorem putc_cells {y x : AV} {k n sz : Nat} (hy : y.cells.length = sz) (hk : k + n ≤ sz) (hx : x.cells.length = n) (hag : (∃ l, y = .agg l) ∨ (k = 0 ∧ n = sz)) :
    (putc y k n x).cells.length = sz ∧ ∀ i : Nat, (putc y k n x).cells[i]? = if k ≤ i ∧ i < k + n then x.cells[i - k]? else y.cells[i]? := by
  have hpa : ∀ l, (putc (.agg l) k n x).cells = l.take k ++ x.cells ++ l.drop (k + n) := fun l => rfl
  generalize hxc : x.cells = xc at *
  have agg : ∀ l : List AV, l.length = sz → (l.take k ++ xc ++ l.drop (k + n)).length = sz ∧ ∀ i : Nat, (l.take k ++ xc ++ l.drop (k + n))[i]? = if k ≤ i ∧ i < k + n then xc[i - k]? else l[i]? := by
    intro l hy
    refine ⟨by simp [hx]; omega, fun i => ?_⟩
    rw [List.append_assoc, List.getElem?_append]
    have h1 : (l.take k).length = k := by simp; omega
    rw [h1]
    by_cases hi : i < k
    · rw [if_pos hi, if_neg (by omega), List.getElem?_take, if_pos hi]
    · rw [if_neg hi, List.getElem?_append, hx]
      by_cases hi2 : i - k < n
      · rw [if_pos hi2, if_pos (by omega)]
      · rw [if_neg hi2, if_neg (by omega), List.getElem?_drop]; congr 1; omega
  rcases hag with ⟨l, rfl⟩ | ⟨rfl, rfl⟩
  · rw [hpa]; exact agg l hy
  · cases y with
    | agg l => rw [hpa]; exact agg l hy
    | _ =>
      simp only [putc, hxc, Nat.zero_add]
      refine ⟨hx, fun i => ?_⟩
      by_cases hi : i < n
      · rw [if_pos ⟨Nat.zero_le _, hi⟩]; rfl
      · rw [if_neg (by omega), List.getElem?_eq_none (by omega), List.getElem?_eq_none (by omega)]

theorem f_store {t : TypeId} {i : TypeInfo} {p x : Operand} {p' x' : Opd} (hi : P.info? t = some i) (hi0 : 0 < i.size) (hp : compO p = some p') (hx : compO x = some x') (ho : o.op = .store t p x)
    (r : StRel X lo w a bs s) (f0 : Fr w0 h0 b0 w s.h bs) (hd : ∀ k, o.dst = some k → k < s.nt) (k : astep P s.h s.tm K Qp (.store i.size p' x')) : o.wp P a w (Goes X lo w0 h0 b0 s o.dst K) (Pans X lo w0 h0 b0 Qp) := by
  simp only [astep] at k
  have hp1 := r.opd hp
  have hx1 := r.opd hx
  generalize hv : a.eval p = pv at hp1
  split at k
  · rename_i oi ver j q e1; rw [e1] at hp1
    split at k
    · rename_i ob e2
      split at k
      · rename_i y e3
        obtain ⟨⟨hver, hle, hl, hone, hpur⟩, k⟩ := k
        have hone' : ∀ z ∈ (ev s.tm x').cells, z.one = true := List.all_eq_true.1 hone
        have hkn : (ev s.tm x').kn = true := by
          cases he : ev s.tm x' <;> first | rfl | skip
          rw [he] at hone'; exact absurd (hone' .any (by simp [AV.cells])) (by simp [AV.one])
        obtain ⟨hc1, hc2⟩ := hx1.cells hkn
        have hcone : ∀ u ∈ (a.eval x).cells.toList, u.oneCell' = true := by
          intro u hu
          obtain ⟨m, hm⟩ := List.getElem?_of_mem hu
          have hlt : m < (ev s.tm x').cells.length := by rw [← hc1]; have := (List.getElem?_eq_some_iff.1 hm).1; simpa using this
          exact (hc2 m _ u (List.getElem?_eq_getElem hlt) (by simpa using hm)).oneCell (hone' _ (List.getElem_mem hlt))
        cases hp1 with
        | ptrS _ _ _ _ ob' hob hlt => rw [e2] at hob; cases hob; omega
        | ptr _ _ _ _ ob' b hob hv' hb =>
          rw [e2] at hob; cases hob
          obtain ⟨C, hC, hs, hxs⟩ := r.heap.lies oi ob b e2 hb
          have hsh := r.heap.shape ob (List.mem_of_getElem? e2) y (List.mem_of_getElem? e3)
          have hj : j < ob.xs.length := (List.getElem?_eq_some_iff.1 e3).1
          have hbound : j * ob.sz + ob.sz ≤ C.size := by
            have : (j + 1) * ob.sz ≤ ob.xs.length * ob.sz := Nat.mul_le_mul_right _ hj
            rw [Nat.add_mul] at this; omega
          -- the run
          have hrun := run_storeCells_at P b (j * ob.sz + q) ob.ty (a.eval x).cells.toList 0 C w hC (by simp only [Nat.add_zero, Array.length_toList, hc1, hl]; omega) hcone
          let C' := (C.toList.take (j * ob.sz + q) ++ (a.eval x).cells.toList ++ C.toList.drop (j * ob.sz + q + (a.eval x).cells.toList.length)).toArray
          have hC's : C'.size = C.size := by simp [C', hc1, hl]; omega
          have hC'g : ∀ m : Nat, C'[m]? = if j * ob.sz + q ≤ m ∧ m < j * ob.sz + q + i.size then (a.eval x).cells[m - (j * ob.sz + q)]? else C[m]? := by
            intro m
            simp only [C', List.getElem?_toArray, List.append_assoc]
            rw [List.getElem?_append]
            have h1 : (C.toList.take (j * ob.sz + q)).length = j * ob.sz + q := by simp; omega
            rw [h1]
            by_cases hm : m < j * ob.sz + q
            · rw [if_pos hm, if_neg (by omega), List.getElem?_take, if_pos hm]; simp
            · rw [if_neg hm, List.getElem?_append]
              have h2 : (a.eval x).cells.toList.length = i.size := by rw [Array.length_toList, hc1, hl]
              rw [h2]
              by_cases hm2 : m - (j * ob.sz + q) < i.size
              · rw [if_pos hm2, if_pos (by omega)]; simp
              · rw [if_neg hm2, if_neg (by omega), List.getElem?_drop]; simp; congr 1; omega
          have hag : (∃ l, y = .agg l) ∨ (q = 0 ∧ i.size = ob.sz) := by
            cases y with
            | agg l => exact .inl ⟨l, rfl⟩
            | _ =>
              right
              have h1 := hsh.1
              simp only [AV.cells, List.length_singleton] at h1
              exact ⟨by omega, by omega⟩
          obtain ⟨hpl, hpg⟩ := putc_cells (x := ev s.tm x') hsh.1 hle hl hag
          obtain ⟨hh, hf⟩ := r.heap.put (ob' := { ob with xs := ob.xs.set j (putc y q i.size (ev s.tm x')) }) e2 hb hC hC's rfl rfl rfl (by simp) (by
            intro hpp
            refine pureL_iff.2 fun z hz => ?_
            rcases List.mem_or_eq_of_mem_set hz with hz | rfl
            · exact pureL_iff.1 (r.heap.pur ob (List.mem_of_getElem? e2) hpp) z hz
            · have h1 := pureL_iff.1 (r.heap.pur ob (List.mem_of_getElem? e2) hpp) y (List.mem_of_getElem? e3)
              have h2 := hpur hpp
              have hxc : pureL (ev s.tm x').cells = true := by
                cases he : ev s.tm x' <;> rw [he] at h2 <;> simp_all [AV.cells, AV.pure, pureL]
              cases y with
              | agg l =>
                simp only [AV.pure] at h1
                simp only [putc, AV.pure, pureL_append, hxc, Bool.and_true, Bool.and_eq_true]
                exact ⟨pureL_iff.2 fun u hu => pureL_iff.1 h1 u (List.mem_of_mem_take hu), pureL_iff.2 fun u hu => pureL_iff.1 h1 u (List.mem_of_mem_drop hu)⟩
              | _ => exact h2) (by
            intro z hz
            rcases List.mem_or_eq_of_mem_set hz with hz | rfl
            · exact r.heap.shape ob (List.mem_of_getElem? e2) z hz
            · refine ⟨hpl, fun hpp u hu => ?_⟩
              obtain ⟨m, hm⟩ := List.getElem?_of_mem hu
              rw [hpg m] at hm
              split at hm
              · exact hone' u (List.mem_of_getElem? hm)
              · exact hsh.2 hpp u (List.mem_of_getElem? hm)) (by
            intro m z c u g1 g2
            rw [List.getElem?_set] at g1
            split at g1
            · rename_i em; subst em
              cases g1
              rw [hpg c] at g2
              have hc : c < ob.sz := by
                rw [← hpl]; exact (List.getElem?_eq_some_iff.1 (show (putc y q i.size (ev s.tm x')).cells[c]? = some u by rw [hpg c]; exact g2)).1
              rw [hC'g]
              split at g2
              · rename_i hin
                rw [if_pos (by omega)]
                have e : j * ob.sz + c - (j * ob.sz + q) = c - q := by omega
                rw [e]
                have hlt : c - q < (a.eval x).cells.size := by rw [hc1]; exact (List.getElem?_eq_some_iff.1 g2).1
                exact ⟨_, Array.getElem?_eq_getElem hlt, hc2 _ u _ g2 (Array.getElem?_eq_getElem hlt)⟩
              · rename_i hin
                rw [if_neg (by omega)]
                exact hxs j y c u e3 g2
            · rename_i em
              rw [hC'g, if_neg ?_]
              · exact hxs m z c u g1 g2
              · have hc : c < ob.sz := by
                  have := (r.heap.shape ob (List.mem_of_getElem? e2) z (List.mem_of_getElem? g1)).1
                  rw [← this]; exact (List.getElem?_eq_some_iff.1 g2).1
                intro ⟨h1, h2⟩
                rcases Nat.lt_or_ge m j with hm | hm
                · have : (m + 1) * ob.sz ≤ j * ob.sz := Nat.mul_le_mul_right _ hm
                  rw [Nat.add_mul] at this; omega
                · have : (j + 1) * ob.sz ≤ m * ob.sz := Nat.mul_le_mul_right _ (by omega)
                  rw [Nat.add_mul] at this; omega)
          refine goes_skip r f0 hd ?_ hh hf k
          simp only [Nat.add_zero] at hrun
          have hsz : (sizeOf t).run P w = .ok i.size w := by simp [sizeOf, typeInfo, hi]
          simp only [execOp, ho, hv, Instr.storeAt, Instr.sureAddr, storeVar, Sem.run_bind, Sem.run_pure, Result.andThen_ok, hsz]
          simp [hc1, hl, hrun, C']
      · exact k.elim
    · exact k.elim
  · exact k.elim

omit [Glob] in
/-- An owned row stands for the object's slice. -/
theorem Rep.of_own {h : List AObj} {ob : AObj} {i : Nat} {v : Value} {n : Nat} {fl : List Value} (hown : w.ownsRow 0 ob.ty ob.sz v n fl) (ho : h[i]? = some ob) (hb : bs[i]? = some v.ownBlock) (hn : ob.xs.length = n) : Rep X w h bs (.osl i ob.ver 0 n) v := by
  rcases hown.2 with ⟨rfl, rfl⟩ | ⟨g, cap, cur, rfl, _, hg, hnc, hcm, hcs, _⟩
  · exact .oslN i _ ob ho rfl hb
  · have := Rep.osl (X := X) (w := w) (h := h) (bs := bs) i ob.ver 0 n cap ob g cur ho rfl hb (by omega) hnc hcm hg (by rw [hcs, Nat.zero_add])
    simpa using this

/-- What an object's slice, told whole, owns. -/
theorem StRel.owns {x : Value} {i ver len : Nat} {ob : AObj} (r : StRel X lo w a bs s) (hx : Rep X w s.h bs (.osl i ver 0 len) x) (ho : s.h[i]? = some ob) (hv : ob.ver = ver) (hlen : len = ob.xs.length) :
    ∃ fl, w.ownsRow 0 ob.ty ob.sz x len fl ∧ bs[i]? = some x.ownBlock ∧ ∀ (j : Nat) (y : AV) (k : Nat) (z : AV), ob.xs[j]? = some y → y.cells[k]? = some z → ∃ v, fl[j * ob.sz + k]? = some v ∧ Rep X w s.h bs z v := by
  cases hx with
  | oslN _ _ ob' hob hv' hb =>
    rw [ho] at hob; cases hob
    refine ⟨[], World.ownsRow_nil w 0 _ _, by simpa [Value.ownBlock] using hb, fun j y k z e1 e2 => ?_⟩
    have := (List.getElem?_eq_some_iff.1 e1).1
    omega
  | osl _ _ _ _ c ob' b C hob hv' hb hl hlc hcm hC hcap =>
    rw [ho] at hob; cases hob
    obtain ⟨C2, hC2, hs, hxs⟩ := r.heap.lies i ob b ho hb
    rw [hC] at hC2; cases hC2
    have hle : len * ob.sz ≤ C.size := by rw [hlen]; exact hs
    refine ⟨C.toList.take (len * ob.sz), ⟨by simp; omega, .inr ⟨b, c, C, by simp, Nat.zero_le _, hC, hlc, hcm, by rw [← hcap, Nat.zero_add], rfl⟩⟩, by simpa [Value.ownBlock] using hb, fun j y k z e1 e2 => ?_⟩
    obtain ⟨v, g1, g2⟩ := hxs j y k z e1 e2
    refine ⟨v, ?_, g2⟩
    have hj : j < len := by rw [hlen]; exact (List.getElem?_eq_some_iff.1 e1).1
    have hk : k < ob.sz := by
      rw [← (r.heap.shape ob (List.mem_of_getElem? ho) y (List.mem_of_getElem? e1)).1]; exact (List.getElem?_eq_some_iff.1 e2).1
    have : (j + 1) * ob.sz ≤ len * ob.sz := Nat.mul_le_mul_right _ hj
    rw [Nat.add_mul] at this
    rw [List.getElem?_take, if_pos (by omega)]
    simpa using g1
  | oslE _ _ _ ob' hob hv' hoff => omega
  | oslS _ _ _ _ ob' hob hlt => rw [ho] at hob; cases hob; omega

/-- What is appended, as one list of cells. -/
def flatOf (sz m : Nat) (vs : Nat → Nat → Value) : List Value := (List.range (m * sz)).map fun q => vs (q / sz) (q % sz)
omit [Glob] in
theorem flatOf_get {sz m : Nat} {vs : Nat → Nat → Value} (hsz : 0 < sz) {j k : Nat} (hj : j < m) (hk : k < sz) : (flatOf sz m vs)[j * sz + k]? = some (vs j k) := by
  have h1 : (j + 1) * sz ≤ m * sz := Nat.mul_le_mul_right _ hj
  rw [Nat.add_mul] at h1
  have h2 : (j * sz + k) / sz = j := by rw [Nat.mul_comm, Nat.mul_add_div hsz, Nat.div_eq_of_lt hk]; rfl
  have h3 : (j * sz + k) % sz = k := by rw [Nat.mul_comm, Nat.mul_add_mod, Nat.mod_eq_of_lt hk]
  unfold flatOf
  rw [List.getElem?_map, List.getElem?_range (by omega), Option.map_some, h2, h3]

/-- Where some elements lie that are read. -/
def LiesAt (X : Env) (w : World) (h : List AObj) (bs : List (Option Nat)) (sz : Nat) (ys : List AV) (A : Option Addr) : Prop :=
  (pureL ys = true ∧ ∀ y ∈ ys, y.cells.length = sz ∧ ∀ z ∈ y.cells, z.one = true) ∧
  (ys = [] ∨ ∃ (b off : Nat) (vs : Nat → Nat → Value), A = some ⟨b, off, none⟩ ∧ ∀ (j : Nat) (y : AV) (k : Nat) (z : AV), ys[j]? = some y → y.cells[k]? = some z → w.cell? ⟨b, off + (j * sz + k), none⟩ = some (vs j k) ∧ Rep X w h bs z (vs j k))

omit [Glob] in
theorem append_run {t e : TypeId} {i : TypeInfo} {z : Value} (ht : P.underlying t = some (.slice e)) (hi : P.info? e = some i) (hz : i.zero = some z) (hzs : z.cells.size = i.size) (hsz : 0 < i.size) {h : List AObj} {ys : List AV} {A : Option Addr} (c : Nat) (ty : TypeId)
    (hl : LiesAt X w h bs i.size ys A) {v : Value} {n : Nat} {fl : List Value} (hown : w.ownsRow 0 e i.size v n fl) (h63 : n + ys.length ≤ maxLen) (hbytes : (n + ys.length) * i.bytes ≤ 140737488355328) :
    ∃ v' w' fl', (Builtin.append_ #[t, t] ty #[v, .slice A ys.length c]).run P w = .ok v' w' ∧ w'.ownsRow 0 e i.size v' (n + ys.length) (fl ++ fl') ∧ w.grownBy w' v.ownBlock ∧ (v'.ownBlock = v.ownBlock ∨ v'.ownBlock = some w.heap.size) ∧
      ∀ (j : Nat) (y : AV) (k : Nat) (z : AV), ys[j]? = some y → y.cells[k]? = some z → ∃ u, fl'[j * i.size + k]? = some u ∧ Rep X w h bs z u := by
  obtain ⟨⟨hp, hsh⟩, hl⟩ := hl
  have main : ∀ (b off : Nat) (vs : Nat → Nat → Value), A = some ⟨b, off, none⟩ → (∀ (j : Nat) (y : AV) (k : Nat) (z : AV), ys[j]? = some y → y.cells[k]? = some z → w.cell? ⟨b, off + (j * i.size + k), none⟩ = some (vs j k) ∧ Rep X w h bs z (vs j k)) →
    ∃ v' w' fl', (Builtin.append_ #[t, t] ty #[v, .slice A ys.length c]).run P w = .ok v' w' ∧ w'.ownsRow 0 e i.size v' (n + ys.length) (fl ++ fl') ∧ w.grownBy w' v.ownBlock ∧ (v'.ownBlock = v.ownBlock ∨ v'.ownBlock = some w.heap.size) ∧
      ∀ (j : Nat) (y : AV) (k : Nat) (z : AV), ys[j]? = some y → y.cells[k]? = some z → ∃ u, fl'[j * i.size + k]? = some u ∧ Rep X w h bs z u := by
    rintro b off vs rfl hc
    have hget : ∀ q, q < ys.length * i.size → ∃ y z, ys[q / i.size]? = some y ∧ y.cells[q % i.size]? = some z := by
      intro q hq
      have h1 : q / i.size < ys.length := Nat.div_lt_of_lt_mul (by rw [Nat.mul_comm]; exact hq)
      refine ⟨ys[q / i.size], (ys[q / i.size]).cells[q % i.size]'(by rw [(hsh _ (List.getElem_mem h1)).1]; exact Nat.mod_lt _ hsz), List.getElem?_eq_getElem h1, List.getElem?_eq_getElem _⟩
    obtain ⟨v', w', g1, g2, g3, _, g5⟩ := run_append_own_at (P := P) w 0 t ty e i z i.size i.bytes ht hi hz rfl rfl hzs hsz v n fl hown ⟨b, off, none⟩ ys.length c (flatOf i.size ys.length vs) (by simp [flatOf]) (fun q u hq => by
        have hlt : q < ys.length * i.size := by have := (List.getElem?_eq_some_iff.1 hq).1; simpa [flatOf] using this
        unfold flatOf at hq
        rw [List.getElem?_map, List.getElem?_range hlt, Option.map_some, Option.some.injEq] at hq
        subst hq
        obtain ⟨y, z, e1, e2⟩ := hget q hlt
        rw [Addr.add_lit, ← (hc _ y _ z e1 e2).1, Nat.div_add_mod' ]) (fun u hu => by
        obtain ⟨q, hq⟩ := List.getElem?_of_mem hu
        have hlt : q < ys.length * i.size := by have := (List.getElem?_eq_some_iff.1 hq).1; simpa [flatOf] using this
        unfold flatOf at hq
        rw [List.getElem?_map, List.getElem?_range hlt, Option.map_some, Option.some.injEq] at hq
        subst hq
        obtain ⟨y, z, e1, e2⟩ := hget q hlt
        exact (hc _ y _ z e1 e2).2.oneCell ((hsh y (List.mem_of_getElem? e1)).2 z (List.mem_of_getElem? e2))) h63 hbytes (Nat.zero_le _)
    refine ⟨v', w', _, g1, g2, g3, g5, fun j y k z e1 e2 => ⟨vs j k, flatOf_get hsz (List.getElem?_eq_some_iff.1 e1).1 ?_, (hc j y k z e1 e2).2⟩⟩
    rw [← (hsh y (List.mem_of_getElem? e1)).1]; exact (List.getElem?_eq_some_iff.1 e2).1
  rcases hl with rfl | ⟨b, off, vs, hA, hc⟩
  · cases A with
    | none =>
      have hr : (Builtin.append_ #[t, t] ty #[v, .slice none 0 c]).run P w = .ok v w := by
        rcases hown.2 with ⟨rfl, rfl⟩ | ⟨g, cap, cur, rfl, _, _, hnc, _⟩
        · simp [Builtin.append_, run_underlying ht, sizeOf, typeInfo, hi, Builtin.lenOf, Builtin.firstCells]
        · simp [Builtin.append_, run_underlying ht, sizeOf, typeInfo, hi, Builtin.lenOf, Builtin.firstCells, hnc, storeCells]
      exact ⟨v, w, [], hr, by simpa using hown, ⟨rfl, rfl, rfl, Nat.le_refl _, fun _ _ _ => rfl⟩, .inl rfl, by simp⟩
    | some ad =>
      obtain ⟨v', w', g1, g2, g3, _, g5⟩ := run_append_own_at (P := P) w 0 t ty e i z i.size i.bytes ht hi hz rfl rfl hzs hsz v n fl hown ad 0 c [] (by simp) (by simp) (by simp) h63 hbytes (Nat.zero_le _)
      exact ⟨v', w', [], g1, g2, g3, g5, by simp⟩
  · exact main b off vs hA hc

theorem appTo_sound {t e : TypeId} {i : TypeInfo} {z : Value} (ht : P.underlying t = some (.slice e)) (hi : P.info? e = some i) (hz : i.zero = some z) (hzs : z.cells.size = i.size) (hsz : 0 < i.size) (hby : 0 < i.bytes)
    {x y : Operand} {x' : Opd} (ho : o.op = .call { callee := .builtin .append, args := #[x, y], argTypes := #[t, t] }) (hx : compO x = some x')
    (r : StRel X lo w a bs s) (f0 : Fr w0 h0 b0 w s.h bs) (hd : ∀ k, o.dst = some k → k < s.nt) {ys : List AV} {A : Option Addr} {c : Nat} (hy : a.eval y = .slice A ys.length c) (hl : LiesAt X w s.h bs i.size ys A)
    (k : appTo i.size e i.bytes s.h (ev s.tm x') ys K) : o.wp P a w (Goes X lo w0 h0 b0 s o.dst K) (Pans X lo w0 h0 b0 Qp) := by
  have hx1 := r.opd hx
  have hmax : ∀ n, n * i.bytes ≤ 140737488355328 → n ≤ maxLen := by
    intro n hn
    have : n * 1 ≤ n * i.bytes := Nat.mul_le_mul_left _ hby
    simp only [maxLen]
    omega
  have hop : ∀ v w', (Builtin.append_ #[t, t] o.type #[a.eval x, .slice A ys.length c]).run P w = .ok v w' → (execOp a.eval o).run P w = .ok (.value v) w' := by
    intro v w' hr
    simp [execOp, ho, resolve, invoke, builtin, hy, hr]
  simp only [appTo] at k
  split at k
  · rename_i e1; rw [e1] at hx1
    obtain ⟨kb, k⟩ := k
    generalize hv : a.eval x = xv at hx1 hop
    cases hx1
    obtain ⟨v', w', fl, g1, g2, g3, g5, g6⟩ := append_run ht hi hz hzs hsz c o.type hl (World.ownsRow_nil w 0 e i.size) (by rw [Nat.zero_add]; exact hmax _ kb) (by rw [Nat.zero_add]; exact kb)
    simp only [Nat.zero_add, List.nil_append] at g2
    have hb : Go.RowKit.Below w.heap.size w w' := ⟨g3.os, g3.tape, g3.output, g3.size, fun q hq => g3.block q hq (by simp [Value.ownBlock])⟩
    have hnb : ∀ q, v'.ownBlock = some q → w.heap.size ≤ q := by
      intro q hq
      rcases g5 with h1 | h1
      · rw [h1] at hq; simp [Value.ownBlock] at hq
      · rw [h1] at hq; cases hq; exact Nat.le_refl _
    have hf := Fr.push r.heap hb ⟨0, i.size, e, true, ys⟩ v'.ownBlock hnb
    have hh := r.heap.push hb ⟨0, i.size, e, true, ys⟩ v'.ownBlock hnb (fun _ => hl.1.1) (fun q hq => ⟨(hl.1.2 q hq).1, fun _ => (hl.1.2 q hq).2⟩) (by
        intro hn
        rcases g2.2 with ⟨_, h1⟩ | ⟨g, cap, cur, rfl, _⟩
        · exact List.eq_nil_of_length_eq_zero h1
        · simp [Value.ownBlock] at hn) (by
        intro q hq
        rcases g2.2 with ⟨rfl, _⟩ | ⟨g, cap, cur, rfl, _, hg, hnc, hcm, hcs, htk⟩
        · simp [Value.ownBlock] at hq
        · simp [Value.ownBlock] at hq; subst hq
          refine ⟨cur, hg, by rw [hcs]; exact Nat.mul_le_mul_right _ hnc, fun j y q z e1 e2 => ?_⟩
          obtain ⟨u, p1, p2⟩ := g6 j y q z e1 e2
          refine ⟨u, ?_, p2⟩
          rw [← htk] at p1
          have := getElem?_take_some p1
          simpa using this)
    refine goes_value r f0 hd (hop _ _ g1) hh hf ?_ k
    exact Rep.of_own (ob := ⟨0, i.size, e, true, ys⟩) g2 (by simp) (by rw [← r.heap.len]; simp) rfl
  · rename_i oi ver off len e1; rw [e1] at hx1
    split at k
    · rename_i ob e2
      obtain ⟨⟨k1, k2, k3, k4, k5, k6, kb⟩, k⟩ := k
      subst k5
      obtain ⟨fl0, hown, hbs, hfl⟩ := r.owns hx1 e2 k1 k6
      rw [k2, k3] at hown
      obtain ⟨v', w', fl, g1, g2, g3, g5, g6⟩ := append_run ht hi hz hzs hsz c o.type hl hown (hmax _ kb) kb
      have hxl : ∀ q ∈ ob.xs ++ ys, q.cells.length = ob.sz ∧ (ob.pur = true → ∀ u ∈ q.cells, u.one = true) := by
        intro q hq
        rcases List.mem_append.1 hq with hq | hq
        · exact r.heap.shape ob (List.mem_of_getElem? e2) q hq
        · rw [k2]; exact ⟨(hl.1.2 q hq).1, fun _ => (hl.1.2 q hq).2⟩
      obtain ⟨hh, hf⟩ := r.heap.grow (ob' := { ob with ver := ver + 1, xs := ob.xs ++ ys }) v'.ownBlock _ e2 hbs g3.os g3.tape g3.output g3.size g3.block g5 rfl rfl (by show ob.ver < ver + 1; omega) (fun hp => by
          show pureL (ob.xs ++ ys) = true
          rw [pureL_append, r.heap.pur ob (List.mem_of_getElem? e2) hp, hl.1.1]; rfl) hxl (by
          intro hn
          rcases g2.2 with ⟨_, h1⟩ | ⟨g, cap, cur, rfl, _⟩
          · exact List.eq_nil_of_length_eq_zero (by simp only [List.length_append]; omega)
          · simp [Value.ownBlock] at hn) (by
          intro q hq
          rcases g2.2 with ⟨rfl, _⟩ | ⟨g, cap, cur, rfl, _, hg, hnc, hcm, hcs, htk⟩
          · simp [Value.ownBlock] at hq
          · simp [Value.ownBlock] at hq; subst hq
            refine ⟨cur, by rw [k3]; exact hg, by rw [hcs, k2]; exact Nat.mul_le_mul_right _ (by simp only [List.length_append]; omega), fun j y q z e1 e2' => ?_⟩
            have hflen : fl0.length = len * i.size := hown.1
            have fin : ∀ u, (fl0 ++ fl)[j * ob.sz + q]? = some u → cur[j * ob.sz + q]? = some u := by
              intro u hu
              rw [← htk] at hu
              have := getElem?_take_some hu
              simpa using this
            rw [List.getElem?_append] at e1
            split at e1
            · rename_i hj
              obtain ⟨u, p1, p2⟩ := hfl j y q z e1 e2'
              refine ⟨u, fin u ?_, p2⟩
              rw [List.getElem?_append_left (List.getElem?_eq_some_iff.1 p1).1]; exact p1
            · rename_i hj
              obtain ⟨u, p1, p2⟩ := g6 (j - ob.xs.length) y q z e1 e2'
              refine ⟨u, fin u ?_, p2⟩
              have e4 : j * ob.sz + q = fl0.length + ((j - ob.xs.length) * i.size + q) := by
                rw [hflen, k2, k6]
                have : j = ob.xs.length + (j - ob.xs.length) := by omega
                rw [← Nat.add_assoc, ← Nat.add_mul, ← this]
              rw [e4, List.getElem?_append_right (by omega), Nat.add_sub_cancel_left]; exact p1)
      refine goes_value r f0 hd (hop _ _ g1) hh hf ?_ k
      have hol : oi < s.h.length := (List.getElem?_eq_some_iff.1 e2).1
      refine Rep.of_own (ob := { ob with ver := ver + 1, xs := ob.xs ++ ys }) (n := len + ys.length) (fl := fl0 ++ fl) (by show w'.ownsRow 0 ob.ty ob.sz v' _ _; rw [k2, k3]; exact g2) (by rw [List.getElem?_set_self hol]) (by rw [List.getElem?_set_self (by rw [r.heap.len]; exact hol)]) (by simp only [List.length_append]; omega)
    · exact k.elim
  · exact k.elim

theorem f_app {t e : TypeId} {i : TypeInfo} {z : Value} (ht : P.underlying t = some (.slice e)) (hi : P.info? e = some i) (hz : i.zero = some z) (hzs : z.cells.size = i.size) (hsz : 0 < i.size) (hby : 0 < i.bytes)
    {x y : Operand} {x' y' : Opd} (ho : o.op = .call { callee := .builtin .append, args := #[x, y], argTypes := #[t, t] }) (hx : compO x = some x') (hy : compO y = some y')
    (r : StRel X lo w a bs s) (f0 : Fr w0 h0 b0 w s.h bs) (hd : ∀ k, o.dst = some k → k < s.nt) (k : astep P s.h s.tm K Qp (.app i.size e i.bytes x' y')) : o.wp P a w (Goes X lo w0 h0 b0 s o.dst K) (Pans X lo w0 h0 b0 Qp) := by
  simp only [astep] at k
  have hy1 := r.opd hy
  split at k
  · rename_i sz ys e1; rw [e1] at hy1
    obtain ⟨rfl, k⟩ := k
    generalize hv : a.eval y = yv at hy1
    cases hy1 with
    | slE _ A c => exact appTo_sound ht hi hz hzs hsz hby ho hx r f0 hd hv ⟨⟨rfl, by simp⟩, .inl rfl⟩ k
    | sl _ _ b off c vs hne hp hc hm hlt hX hb hsz' hcell hrep => exact appTo_sound ht hi hz hzs hsz hby ho hx r f0 hd hv ⟨⟨hp, hsz'⟩, .inr ⟨b, off, vs, rfl, fun j y k z e1 e2 => ⟨hcell j y k z e1 e2, hrep j y k z e1 e2⟩⟩⟩ k
  · rename_i e1; rw [e1] at hy1
    generalize hv : a.eval y = yv at hy1
    cases hy1
    exact appTo_sound ht hi hz hzs hsz hby ho hx r f0 hd (ys := []) hv ⟨⟨rfl, by simp⟩, .inl rfl⟩ k
  · rename_i oi ver off len e1; rw [e1] at hy1
    split at k
    · rename_i ob e2
      obtain ⟨⟨k1, k2, k3⟩, k⟩ := k
      generalize hv : a.eval y = yv at hy1
      have hpz : pureL ((ob.xs.drop off).take len) = true := pureL_iff.2 fun q hq => pureL_iff.1 (r.heap.pur ob (List.mem_of_getElem? e2) k3) q (List.mem_of_mem_drop (List.mem_of_mem_take hq))
      have hsh : ∀ q ∈ (ob.xs.drop off).take len, q.cells.length = i.size ∧ ∀ u ∈ q.cells, u.one = true := fun q hq => by
        have := r.heap.shape ob (List.mem_of_getElem? e2) q (List.mem_of_mem_drop (List.mem_of_mem_take hq))
        exact ⟨this.1.trans k2, this.2 k3⟩
      have empty : ∀ (A : Option Addr) (c : Nat), len = 0 → yv = .slice A 0 c → o.wp P a w (Goes X lo w0 h0 b0 s o.dst K) (Pans X lo w0 h0 b0 Qp) := by
        intro A c h1 h2
        have : (ob.xs.drop off).take len = [] := by rw [h1]; simp
        rw [this] at k
        exact appTo_sound ht hi hz hzs hsz hby ho hx r f0 hd (ys := []) (hv.trans h2) ⟨⟨rfl, by simp⟩, .inl rfl⟩ k
      cases hy1 with
      | oslN => exact empty _ _ rfl rfl
      | oslE => exact empty _ _ rfl rfl
      | oslS _ _ _ _ ob' hob hlt => rw [e2] at hob; cases hob; omega
      | osl _ _ _ _ c ob' b C hob hv' hb hlen hlc hcm hC hcap =>
        rw [e2] at hob; cases hob
        obtain ⟨C2, hC2, hs, hxs⟩ := r.heap.lies oi ob b e2 hb
        rw [hC] at hC2; cases hC2
        have hyl : ((ob.xs.drop off).take len).length = len := by simp; omega
        refine appTo_sound ht hi hz hzs hsz hby ho hx r f0 hd (ys := (ob.xs.drop off).take len) (by rw [hv, hyl]) ⟨⟨hpz, hsh⟩, .inr ⟨b, off * ob.sz, fun j k => (C[(off + j) * ob.sz + k]?).getD undef, rfl, fun j y k z e1 e3 => ?_⟩⟩ k
        have e4 := getElem?_take_some e1
        rw [List.getElem?_drop] at e4
        obtain ⟨u, p1, p2⟩ := hxs (off + j) y k z e4 e3
        simp only [p1, Option.getD_some]
        refine ⟨?_, p2⟩
        have : off * ob.sz + (j * i.size + k) = (off + j) * ob.sz + k := by rw [← k2, Nat.add_mul]; omega
        rw [this, cell_of_row w b _ C ob.ty (0, 0) hC]
        exact p1
    · exact k.elim
  · exact k.elim

/-- A call. -/
theorem goes_call {f : FuncId} {args : List AV} {vs : List Value} (r : StRel X lo w a bs s) (f0 : Fr w0 h0 b0 w s.h bs) (hd : ∀ k, o.dst = some k → k < s.nt) (hr : (execOp a.eval o).run P w = .ok (.enter f vs.toArray) w) (hl : RepL X w s.h bs args vs)
    (k : VH P f args s.h fun o h' => match o with
      | .ret v => K v h'
      | .pan v => Qp v h') : o.wp P a w (Goes X lo w0 h0 b0 s o.dst K) (Pans X lo w0 h0 b0 Qp) := by
  unfold Oper.wp
  rw [hr, Oper.upon_enter]
  refine (k X w bs vs r.heap hl).mono ?_
  rintro e w' ⟨h', bs', v, x, w1, hh, hf, hv, (⟨rfl, rfl, q⟩ | ⟨rfl, p, q⟩)⟩
  · exact ⟨v, h', bs', q, r.put hh hf hv o.dst hd, f0.trans hf⟩
  · exact ⟨v, x, h', bs', w1, p, rfl, q, hh, hv, f0.trans hf, r.df.fr hf⟩

omit [Glob] in
theorem run_callFunc {f : FuncId} (hf : callOK P f = true) (args : Array Value) : (callFunc f args).run P w = .ok (.enter f args) w := by
  unfold callOK at hf
  split at hf
  · rename_i fn h1
    simp only [Bool.and_eq_true, Bool.not_eq_true', beq_eq_false_iff_ne, ne_eq] at hf
    have hb : fn.body.isNone = false := by
      cases hb : fn.body with
      | none => rw [hb] at hf; simp at hf
      | some c => rfl
    have hb2 : ¬ fn.body = none := by cases hb3 : fn.body <;> simp_all
    simp [callFunc, h1, hf.1, hb2]
  · cases hf

theorem f_call {f : FuncId} {c : Call} {m : List Opd} (hf : callOK P f = true) (hcal : c.callee = .value (.func f)) (hm : compOs c.args.toList = some m) (ho : o.op = .call c)
    (r : StRel X lo w a bs s) (f0 : Fr w0 h0 b0 w s.h bs) (hd : ∀ k, o.dst = some k → k < s.nt) (k : astep P s.h s.tm K Qp (.call f m)) : o.wp P a w (Goes X lo w0 h0 b0 s o.dst K) (Pans X lo w0 h0 b0 Qp) := by
  refine goes_call (f := f) (args := m.map (ev s.tm)) (vs := c.args.toList.map a.eval) r f0 hd ?_ (r.opds hm) k
  have e : (c.args.map a.eval) = (c.args.toList.map a.eval).toArray := by apply Array.ext'; simp
  simp only [execOp, ho, resolve, hcal, Act.eval, Deferred.ofValue, Sem.run_bind, Sem.run_pure, Result.andThen_ok, invoke]
  simp only [Array.empty_append, Array.append_empty, run_callFunc hf, e]

theorem f_cval {c : Call} {g : Operand} {g' : Opd} {m : List Opd} (hcal : c.callee = .value g) (hg : compO g = some g') (hm : compOs c.args.toList = some m) (ho : o.op = .call c)
    (r : StRel X lo w a bs s) (f0 : Fr w0 h0 b0 w s.h bs) (hd : ∀ k, o.dst = some k → k < s.nt) (k : astep P s.h s.tm K Qp (.cval g' m)) : o.wp P a w (Goes X lo w0 h0 b0 s o.dst K) (Pans X lo w0 h0 b0 Qp) := by
  simp only [astep] at k
  have hg1 := r.opd hg
  generalize hv : a.eval g = gv at hg1
  split at k
  · rename_i f cap e1; rw [e1] at hg1
    obtain ⟨hf, k⟩ := k
    cases hg1 with
    | fn _ _ cs hl hrep =>
      obtain ⟨p, q⟩ := r.opds hm
      refine goes_call (f := f) (args := m.map (ev s.tm) ++ cap) (vs := c.args.toList.map a.eval ++ cs.toList) r f0 hd ?_ ⟨by simp [p, hl], fun j x v e1 e2 => ?_⟩ k
      · have e : (c.args.map a.eval) ++ cs = (c.args.toList.map a.eval ++ cs.toList).toArray := by apply Array.ext'; simp
        simp only [execOp, ho, resolve, hcal, hv, Deferred.ofValue, Sem.run_bind, Sem.run_pure, Result.andThen_ok, invoke]
        simp only [Array.empty_append, run_callFunc hf, e]
      · rw [List.getElem?_append] at e1 e2
        rw [← p] at e1
        split at e1
        · rename_i hj; rw [if_pos hj] at e2; exact q j x v e1 e2
        · rename_i hj; rw [if_neg hj] at e2; exact hrep _ x v e1 (by simpa using e2)
  · exact k.elim

theorem f_pan {x : Operand} {x' : Opd} (hx : compO x = some x') (hr : ∀ t v, a.eval x = .iface t v → (execOp a.eval o).run P w = .halt (.panic (.iface t v)) w)
    (r : StRel X lo w a bs s) (f0 : Fr w0 h0 b0 w s.h bs) (k : astep P s.h s.tm K Qp (.pan x')) : o.wp P a w (Goes X lo w0 h0 b0 s o.dst K) (Pans X lo w0 h0 b0 Qp) := by
  simp only [astep] at k
  have hx1 := r.opd hx
  generalize hv : a.eval x = xv at hx1 hr
  split at k
  · rename_i t v e1; rw [e1] at hx1
    cases hx1 with
    | iface _ _ y hy =>
      unfold Oper.wp
      rw [hr t y rfl, Oper.upon_panic]
      exact ⟨_, _, s.h, bs, w, .inl rfl, rfl, k, r.heap, .iface t v y hy, f0, r.df⟩
  · exact k.elim

omit [Glob] in
theorem run_panic_op {x : Operand} (ho : o.op = .panic x) (t : TypeId) (v : Value) (hv : a.eval x = .iface t v) : (execOp a.eval o).run P w = .halt (.panic (.iface t v)) w := by
  simp [execOp, ho, hv, Instr.panic, goPanic]
omit [Glob] in
theorem run_panic_call {c : Call} {x : Operand} (hc : c.callee = .builtin .panic) (hx : c.args.toList = [x]) (ho : o.op = .call c) (t : TypeId) (v : Value) (hv : a.eval x = .iface t v) : (execOp a.eval o).run P w = .halt (.panic (.iface t v)) w := by
  have hx2 : c.args = #[x] := Array.ext' hx
  simp [execOp, ho, resolve, hc, hx2, hv, invoke, builtin, Instr.panic, goPanic]

omit [Glob] in
theorem litParts_all : ∀ {l : List (Nat × Operand)} {n : Nat} {m : List Operand}, litParts n l = some m → l = (m.zipIdx n).map fun p => (p.2, p.1)
  | [], n, m, e => by cases e; rfl
  | (i, x) :: l, n, m, e => by
    simp only [litParts] at e
    split at e
    · rename_i hi
      subst hi
      cases h : litParts (i + 1) l with
      | none => rw [h] at e; cases e
      | some m' => rw [h] at e; cases e; simp [litParts_all h]
    · cases e

omit [Glob] in
theorem fill_list (sz : Nat) : ∀ (vs : List Value) (n : Nat) (cs : Array Value), (∀ v ∈ vs, v.cells.size = sz) → (n + vs.length) * sz ≤ cs.size →
    ∃ cs', Instr.fill (fun i => some (i * sz, sz)) cs ((vs.zipIdx n).map fun p => (p.2, p.1)) = some cs' ∧ cs'.size = cs.size ∧ (∀ m, m < n * sz → cs'[m]? = cs[m]?) ∧ ∀ (j : Nat) (v : Value) (k : Nat), vs[j]? = some v → k < sz → cs'[(n + j) * sz + k]? = v.cells[k]?
  | [], n, cs, _, _ => ⟨cs, rfl, rfl, fun _ _ => rfl, by simp⟩
  | v :: vs, n, cs, hsz, hle => by
    have hv := hsz v (by simp)
    simp only [List.length_cons] at hle
    have hle1 : n * sz + sz ≤ cs.size := by
      have : (n + 1) * sz ≤ (n + (vs.length + 1)) * sz := Nat.mul_le_mul_right _ (by omega)
      rw [Nat.add_mul, Nat.one_mul] at this; omega
    obtain ⟨g1, g2⟩ := foldl_set (n * sz) v.cells.toList 0 cs (by simp [hv]; omega)
    obtain ⟨cs', p1, p2, p3, p4⟩ := fill_list sz vs (n + 1) (v.cells.zipIdx.foldl (fun cs (c, j) => cs.setIfInBounds (n * sz + j) c) cs) (fun u hu => hsz u (by simp [hu])) (by
      have e : (v.cells.zipIdx.foldl (fun cs (c, j) => cs.setIfInBounds (n * sz + j) c) cs) = ((v.cells.toList.zipIdx 0).foldl (fun cs (p : Value × Nat) => cs.setIfInBounds (n * sz + p.2) p.1) cs) := by
        rw [← Array.foldl_toList, Array.toList_zipIdx]
      rw [e, g1]
      have : (n + 1 + vs.length) * sz = (n + (vs.length + 1)) * sz := by congr 1; omega
      rw [this]; exact hle)
    have e : (v.cells.zipIdx.foldl (fun cs (c, j) => cs.setIfInBounds (n * sz + j) c) cs) = ((v.cells.toList.zipIdx 0).foldl (fun cs (p : Value × Nat) => cs.setIfInBounds (n * sz + p.2) p.1) cs) := by
      rw [← Array.foldl_toList, Array.toList_zipIdx]
    rw [e] at p1 p2 p3
    refine ⟨cs', ?_, by rw [p2, g1], fun m hm => ?_, fun j u k hj hk => ?_⟩
    · simp only [List.zipIdx_cons, List.map_cons, Instr.fill]
      rw [if_neg (by simp [hv]; omega), e]
      exact p1
    · rw [p3 m (by rw [Nat.add_mul]; omega), g2 m, if_neg (by omega)]
    · cases j with
      | zero =>
        simp at hj; subst hj
        rw [Nat.add_zero, p3 _ (by rw [Nat.add_mul]; omega), g2, if_pos (by simp [hv]; omega)]
        simp
      | succ j =>
        simp at hj
        rw [show n + (j + 1) = n + 1 + j by omega]
        exact p4 j u k hj hk

/-- A slice literal, as the world sees it. -/
theorem bsl_run {t e : TypeId} {i : TypeInfo} {z : Value} {n : Nat} {ps : Array (Nat × Operand)} {l : List Operand} {m : List Opd} (ht : P.underlying t = some (.slice e)) (hi : P.info? e = some i) (hlp : litParts 0 ps.toList = some l) (hm : compOs l = some m) (hz : i.zero = some z)
    (hn : m.length = n) (hsmall : n * i.size ≤ 16777216) (hsz : 0 < i.size) (hzs : z.cells.size = i.size) (ho : o.op = .buildSlice t n ps) (r : StRel X lo w a bs s) (kok : okL i.size (m.map (ev s.tm)) = true) :
    ∃ cs : Array Value, (execOp a.eval o).run P w = .ok (.value (.slice (some ⟨w.heap.size, 0, none⟩) n n)) (w.alloc (.cells cs e)) ∧ cs.size = n * i.size ∧ (∀ x ∈ m.map (ev s.tm), x.pure = true ∧ x.cells.length = i.size ∧ ∀ y ∈ x.cells, y.one = true) ∧
      ∀ (j : Nat) (x : AV) (q : Nat) (y : AV), (m.map (ev s.tm))[j]? = some x → x.cells[q]? = some y → ∃ v, cs[j * i.size + q]? = some v ∧ Rep X w s.h bs y v := by
  obtain ⟨hl1, hl2⟩ := r.opds hm
  have hok : ∀ x ∈ m.map (ev s.tm), x.pure = true ∧ x.cells.length = i.size ∧ ∀ y ∈ x.cells, y.one = true := by
    intro x hx
    have := List.all_eq_true.1 kok x hx
    simp only [Bool.and_eq_true, beq_iff_eq] at this
    exact ⟨this.1.1, this.1.2, List.all_eq_true.1 this.2⟩
  have hkn : ∀ x ∈ m.map (ev s.tm), x.kn = true := by
    intro x hx
    cases x <;> first | rfl | skip
    exact absurd ((hok _ hx).2.2 .any (by simp [AV.cells])) (by simp [AV.one])
  have hvs : ∀ v ∈ l.map a.eval, v.cells.size = i.size := by
    intro v hv
    obtain ⟨q, hq⟩ := List.getElem?_of_mem hv
    have hlt : q < (m.map (ev s.tm)).length := by rw [← hl1]; exact (List.getElem?_eq_some_iff.1 hq).1
    have hx := List.getElem?_eq_getElem hlt
    have hmem := List.getElem_mem hlt
    rw [((hl2 q _ v hx hq).cells (hkn _ hmem)).1]
    exact (hok _ hmem).2.1
  have hlen : (l.map a.eval).length = n := by rw [hl1]; simpa using hn
  obtain ⟨cs, c1, c2, _, c4⟩ := fill_list i.size (l.map a.eval) 0 ((Array.range (n * i.size)).map (z.cells[· % z.cells.size]!)) hvs (by simp; rw [← hlen]; simp)
  have hparts : (ps.map fun (p : Nat × Operand) => (p.1, a.eval p.2)).toList = ((l.map a.eval).zipIdx 0).map fun p => (p.2, p.1) := by
    rw [Array.toList_map, litParts_all hlp, List.zipIdx_map, List.map_map, List.map_map]
    rfl
  have hcsz : cs.size = n * i.size := by rw [c2]; simp
  have hrun : (execOp a.eval o).run P w = .ok (.value (.slice (some ⟨w.heap.size, 0, none⟩) n n)) (w.alloc (.cells cs e)) := by
    have hlim : ¬ (n * i.size > 2 ^ 24) := by omega
    simp only [execOp, ho, Instr.buildSlice, Sem.run_bind, run_underlying ht, Result.andThen_ok, sizeOf, typeInfo]
    have hp2 := hparts
    rw [Array.toList_map] at hp2
    by_cases hn0 : n * i.size = 0
    · have c1' := c1
      rw [hn0] at c1'
      have hr0 : ∀ f : Nat → Value, Array.map f (Array.range 0) = #[] := fun f => by simp [Array.range]
      rw [hr0] at c1'
      simp [hi, hlim, hn0, newRow]
      simp only [hp2, c1', hr0]
      rfl
    · simp [hi, hlim, hn0, zeroValue, typeInfo, hz, newRow]
      simp only [hp2, c1]
      rfl
  refine ⟨cs, hrun, hcsz, hok, fun j x q y e1 e2 => ?_⟩
  have hj : j < (l.map a.eval).length := by rw [hl1]; exact (List.getElem?_eq_some_iff.1 e1).1
  have hxm := List.mem_of_getElem? e1
  obtain ⟨d1, d2⟩ := (hl2 j x _ e1 (List.getElem?_eq_getElem hj)).cells (hkn x hxm)
  have hq : q < x.cells.length := (List.getElem?_eq_some_iff.1 e2).1
  have hq2 : q < ((l.map a.eval)[j]).cells.size := by rw [d1]; exact hq
  have := c4 j _ q (List.getElem?_eq_getElem hj) (by rw [← (hok x hxm).2.1]; exact hq)
  rw [Nat.zero_add] at this
  exact ⟨_, this.trans (Array.getElem?_eq_getElem hq2), d2 q y _ e2 (Array.getElem?_eq_getElem hq2)⟩

theorem f_bsl {t e : TypeId} {i : TypeInfo} {z : Value} {n : Nat} {ps : Array (Nat × Operand)} {l : List Operand} {m : List Opd} (ht : P.underlying t = some (.slice e)) (hi : P.info? e = some i) (hlp : litParts 0 ps.toList = some l) (hm : compOs l = some m) (hz : i.zero = some z)
    (hn : m.length = n) (hsmall : n * i.size ≤ 16777216) (hsz : 0 < i.size) (hzs : z.cells.size = i.size) (ho : o.op = .buildSlice t n ps)
    (r : StRel X lo w a bs s) (f0 : Fr w0 h0 b0 w s.h bs) (hd : ∀ k, o.dst = some k → k < s.nt) (k : astep P s.h s.tm K Qp (.bsl i.size e m)) : o.wp P a w (Goes X lo w0 h0 b0 s o.dst K) (Pans X lo w0 h0 b0 Qp) := by
  obtain ⟨kok, k⟩ := k
  obtain ⟨cs, hrun, hcsz, hok, hlay⟩ := bsl_run ht hi hlp hm hz hn hsmall hsz hzs ho r kok
  have hb := below_alloc w (.cells cs e)
  have hh := r.heap.push hb ⟨0, i.size, e, true, m.map (ev s.tm)⟩ (some w.heap.size) (fun k e => by cases e; exact Nat.le_refl _) (fun _ => pureL_iff.2 fun x hx => (hok x hx).1) (fun x hx => ⟨(hok x hx).2.1, fun _ => (hok x hx).2.2⟩) (by simp) (fun k e => by
    cases e
    exact ⟨cs, heap_alloc_new w _, by simp [hcsz, hn], hlay⟩)
  have hf := Fr.push r.heap hb ⟨0, i.size, e, true, m.map (ev s.tm)⟩ (some w.heap.size) (fun k e => by cases e; exact Nat.le_refl _)
  refine goes_value r f0 hd hrun hh hf ?_ k
  rw [hn]
  have := Rep.osl (X := X) (w := w.alloc (.cells cs e)) (h := s.h ++ [⟨0, i.size, e, true, m.map (ev s.tm)⟩]) (bs := bs ++ [some w.heap.size]) s.h.length 0 0 n n ⟨0, i.size, e, true, m.map (ev s.tm)⟩ w.heap.size cs (by simp) rfl (by rw [← r.heap.len]; simp) (by simp [hn]) (Nat.le_refl _) (by
    have : n * 1 ≤ n * i.size := Nat.mul_le_mul_left _ hsz
    simp only [maxLen]; omega) (heap_alloc_new w _) (by simp [hcsz])
  simpa using this

/-- A slice literal that is only read. -/
theorem f_lit {t e : TypeId} {i : TypeInfo} {z : Value} {n : Nat} {ps : Array (Nat × Operand)} {l : List Operand} {m : List Opd} (ht : P.underlying t = some (.slice e)) (hi : P.info? e = some i) (hlp : litParts 0 ps.toList = some l) (hm : compOs l = some m) (hz : i.zero = some z)
    (hn : m.length = n) (hsmall : n * i.size ≤ 16777216) (hsz : 0 < i.size) (hzs : z.cells.size = i.size) (ho : o.op = .buildSlice t n ps)
    (r : StRel X lo w a bs s) (f0 : Fr w0 h0 b0 w s.h bs) (hd : ∀ k, o.dst = some k → k < s.nt) (k : astep P s.h s.tm K Qp (.lit i.size m)) : o.wp P a w (Goes X lo w0 h0 b0 s o.dst K) (Pans X lo w0 h0 b0 Qp) := by
  obtain ⟨kok, k⟩ := k
  obtain ⟨cs, hrun, hcsz, hok, hlay⟩ := bsl_run ht hi hlp hm hz hn hsmall hsz hzs ho r kok
  have hb := below_alloc w (.cells cs e)
  have hf := Fr.of_below hb s.h bs
  have hlt : ∀ j k : Nat, bs[j]? = some (some k) → k < w.heap.size := by
    intro j k e
    have hi : j < s.h.length := by rw [← r.heap.len]; exact (List.getElem?_eq_some_iff.1 e).1
    obtain ⟨C, hC, _⟩ := r.heap.lies j s.h[j] k (List.getElem?_eq_getElem hi) e
    exact (Array.getElem?_eq_some_iff.1 hC).1
  refine goes_value r f0 hd hrun (r.heap.below hf fun b hb2 => hb.block b hb2) hf ?_ k
  cases hml : m.map (ev s.tm) with
  | nil =>
    have : n = 0 := by rw [← hn, ← List.length_map (f := ev s.tm), hml]; rfl
    subst this
    exact .slE _ _ _
  | cons x0 r0 =>
    rw [← hml]
    have hlen : (m.map (ev s.tm)).length = n := by simp [hn]
    have hcell : ∀ (j : Nat) (x : AV) (k : Nat) (y : AV), (m.map (ev s.tm))[j]? = some x → x.cells[k]? = some y → (w.alloc (.cells cs e)).cell? ⟨w.heap.size, 0 + (j * i.size + k), none⟩ = some (cs.getD (j * i.size + k) undef) := by
      intro j x k y e1 e2
      obtain ⟨v, hv, _⟩ := hlay j x k y e1 e2
      rw [Array.getD_eq_getD_getElem?, hv]
      rw [Nat.zero_add]
      exact (cell_of_row _ _ _ _ _ _ (heap_alloc_new w _)).trans hv
    have := Rep.sl (X := X) (w := w.alloc (.cells cs e)) (h := s.h) (bs := bs) i.size (m.map (ev s.tm)) w.heap.size 0 n (fun j k => cs.getD (j * i.size + k) undef) (by rw [hml]; simp) (pureL_iff.2 fun x hx => (hok x hx).1) (by omega) (by
      have : n * 1 ≤ n * i.size := Nat.mul_le_mul_left _ hsz
      simp only [maxLen]; omega) (Array.getElem?_eq_some_iff.1 (heap_alloc_new w (.cells cs e))).1 (fun hX => by have := r.heap.Xlt _ hX; omega) (fun hm => by
        obtain ⟨j, hj⟩ := List.getElem?_of_mem hm
        have := hlt j _ hj; omega) (fun x hx => (hok x hx).2) hcell (fun j x k y e1 e2 => by
        obtain ⟨v, hv, hr⟩ := hlay j x k y e1 e2
        rw [Array.getD_eq_getD_getElem?, hv]
        exact hr.fr hf)
    rw [hlen] at this
    exact this

theorem V.call {f : FuncId} {args : List AV} {o : Out} {h : List AObj} {R : Out → List AObj → Prop} (v : V P f args o) (k : R o h) : VH P f args h R :=
  (v h).mono fun _ _ e => by rw [e.1, e.2]; exact k

theorem f_callV {f : FuncId} {c : Call} {m : List Opd} (hf : callOK P f = true) (hcal : c.callee = .value (.func f)) (hm : compOs c.args.toList = some m) (ho : o.op = .call c)
    (r : StRel X lo w a bs s) (f0 : Fr w0 h0 b0 w s.h bs) (hd : ∀ k, o.dst = some k → k < s.nt) (k : astep P s.h s.tm K Qp (.callV f m)) : o.wp P a w (Goes X lo w0 h0 b0 s o.dst K) (Pans X lo w0 h0 b0 Qp) := by
  obtain ⟨v, hv, k⟩ := k
  refine f_call hf hcal hm ho r f0 hd ?_
  simp only [astep]
  exact hv.call k

theorem f_callO {f : FuncId} {c : Call} {m : List Opd} (hf : callOK P f = true) (hcal : c.callee = .value (.func f)) (hm : compOs c.args.toList = some m) (ho : o.op = .call c)
    (r : StRel X lo w a bs s) (f0 : Fr w0 h0 b0 w s.h bs) (hd : ∀ k, o.dst = some k → k < s.nt) (k : astep P s.h s.tm K Qp (.callO f m)) : o.wp P a w (Goes X lo w0 h0 b0 s o.dst K) (Pans X lo w0 h0 b0 Qp) := by
  obtain ⟨v, ⟨k1, k2, k3, k4⟩, k⟩ := k
  refine f_call hf hcal hm ho r f0 hd ?_
  simp only [astep]
  exact (V.own k1 k2 k3 k4).mono fun o h' e => by rw [e.1, e.2]; exact k
theorem f_cvalO {c : Call} {g : Operand} {g' : Opd} {m : List Opd} (hcal : c.callee = .value g) (hg : compO g = some g') (hm : compOs c.args.toList = some m) (ho : o.op = .call c)
    (r : StRel X lo w a bs s) (f0 : Fr w0 h0 b0 w s.h bs) (hd : ∀ k, o.dst = some k → k < s.nt) (k : astep P s.h s.tm K Qp (.cvalO g' m)) : o.wp P a w (Goes X lo w0 h0 b0 s o.dst K) (Pans X lo w0 h0 b0 Qp) := by
  refine f_cval hcal hg hm ho r f0 hd ?_
  simp only [astep] at k ⊢
  split at k
  · rename_i f cap e
    obtain ⟨k0, v, ⟨k1, k2, k3, k4⟩, k⟩ := k
    exact ⟨k0, (V.own k1 k2 k3 k4).mono fun o h' e => by rw [e.1, e.2]; exact k⟩
  · exact k.elim
theorem f_callP {f : FuncId} {c : Call} {m : List Opd} (hf : callOK P f = true) (hcal : c.callee = .value (.func f)) (hm : compOs c.args.toList = some m) (ho : o.op = .call c)
    (r : StRel X lo w a bs s) (f0 : Fr w0 h0 b0 w s.h bs) (hd : ∀ k, o.dst = some k → k < s.nt) (k : astep P s.h s.tm K Qp (.callP f m)) : o.wp P a w (Goes X lo w0 h0 b0 s o.dst K) (Pans X lo w0 h0 b0 Qp) := by
  obtain ⟨v, hv, k⟩ := k
  refine f_call hf hcal hm ho r f0 hd ?_
  simp only [astep]
  exact hv.call k
theorem f_cvalP {c : Call} {g : Operand} {g' : Opd} {m : List Opd} (hcal : c.callee = .value g) (hg : compO g = some g') (hm : compOs c.args.toList = some m) (ho : o.op = .call c)
    (r : StRel X lo w a bs s) (f0 : Fr w0 h0 b0 w s.h bs) (hd : ∀ k, o.dst = some k → k < s.nt) (k : astep P s.h s.tm K Qp (.cvalP g' m)) : o.wp P a w (Goes X lo w0 h0 b0 s o.dst K) (Pans X lo w0 h0 b0 Qp) := by
  refine f_cval hcal hg hm ho r f0 hd ?_
  simp only [astep] at k ⊢
  split at k
  · rename_i f cap e
    obtain ⟨k1, v, hv, k⟩ := k
    exact ⟨k1, hv.call k⟩
  · exact k.elim
theorem f_cvalV {c : Call} {g : Operand} {g' : Opd} {m : List Opd} (hcal : c.callee = .value g) (hg : compO g = some g') (hm : compOs c.args.toList = some m) (ho : o.op = .call c)
    (r : StRel X lo w a bs s) (f0 : Fr w0 h0 b0 w s.h bs) (hd : ∀ k, o.dst = some k → k < s.nt) (k : astep P s.h s.tm K Qp (.cvalV g' m)) : o.wp P a w (Goes X lo w0 h0 b0 s o.dst K) (Pans X lo w0 h0 b0 Qp) := by
  refine f_cval hcal hg hm ho r f0 hd ?_
  simp only [astep] at k ⊢
  split at k
  · rename_i f cap e
    obtain ⟨k1, v, hv, k⟩ := k
    exact ⟨k1, hv.call k⟩
  · exact k.elim

/-- What is compiled goes on as is told. -/
theorem compF_sound0 {hint e : AOp} (hny : ∀ g l, e ≠ .yld g l) (hc : compF P hint o.op = some e) (r : StRel X lo w a bs s) (f0 : Fr w0 h0 b0 w s.h bs) (hd : ∀ k, o.dst = some k → k < s.nt) (k : astep P s.h s.tm K Qp e) : o.wp P a w (Goes X lo w0 h0 b0 s o.dst K) (Pans X lo w0 h0 b0 Qp) := by
  have val : ∀ {op : Op}, o.op = op → (compE P op).map AOp.e = some e → o.wp P a w (Goes X lo w0 h0 b0 s o.dst K) (Pans X lo w0 h0 b0 Qp) := by
    intro op hop hc
    cases hx : compE P op with
    | none => rw [hx] at hc; cases hc
    | some x =>
      rw [hx] at hc; cases hc
      obtain ⟨v, y, h1, h2, h3⟩ := compE_sound (by rw [hop]; exact hx) r k
      exact goes_value r f0 hd h1 r.heap (Fr.refl ..) h2 h3
  generalize hop : o.op = op at hc
  unfold compF at hc
  split at hc
  · split at hc
    · rename_i h1
      split at hc
      · rename_i h2
        split at hc
        · rename_i h3
          split at hc
          · rename_i h4; cases hc; exact f_alloc h1 h2 h3 h4.1 h4.2 hop r f0 hd k
          · cases hc
        · cases hc
      · cases hc
    · cases hc
  · split at hc
    · rename_i h1 h2; cases hc; exact f_box h1 h2 hop r f0 hd k
    · cases hc
  · split at hc
    · rename_i h1 h2 h3
      split at hc
      · rename_i h4; cases hc; exact f_store h1 h4 h2 h3 hop r f0 hd k
      · cases hc
    · cases hc
  · rename_i x
    cases hx : compO x with
    | none => rw [hx] at hc; cases hc
    | some x' => rw [hx] at hc; cases hc; exact f_pan hx (fun t v hv => run_panic_op hop t v hv) r f0 k
  · rename_i c
    split at hc
    · rename_i hcal
      split at hc
      · rename_i x y t u hargs htys
        split at hc
        · rename_i el x' y' h1 h2 h3
          split at hc
          · rename_i i h4
            split at hc
            · rename_i z h5
              split at hc
              · rename_i h6
                cases hc
                obtain ⟨rfl, h6, h7, h8⟩ := h6
                refine f_app (t := t) h1 h4 h5 h6 h7 h8 (x := x) (y := y) ?_ h2 h3 r f0 hd k
                rw [hop]
                obtain ⟨cc, ca, ct⟩ := c
                simp only at hcal hargs htys
                subst hcal
                have : ca = #[x, y] := Array.ext' hargs
                subst this
                have : ct = #[t, t] := Array.ext' htys
                subst this
                rfl
              · cases hc
            · cases hc
          · cases hc
        · cases hc
      · cases hc
    · rename_i hcal
      split at hc
      · rename_i x hargs
        cases hx : compO x with
        | none => rw [hx] at hc; cases hc
        | some x' => rw [hx] at hc; cases hc; exact f_pan hx (fun t v hv => run_panic_call hcal hargs hop t v hv) r f0 k
      · cases hc
    · rename_i f hcal
      split at hc
      · rename_i hf
        cases hx : compOs c.args.toList with
        | none => rw [hx] at hc; cases hc
        | some l =>
          rw [hx] at hc
          simp only [Option.map_some, Option.some.injEq] at hc
          split at hc
          · subst hc; exact f_callV hf hcal hx hop r f0 hd k
          · subst hc; exact f_callP hf hcal hx hop r f0 hd k
          · subst hc; exact f_callO hf hcal hx hop r f0 hd k
          · subst hc; exact f_call hf hcal hx hop r f0 hd k
      · cases hc
    · rename_i g _ hcal
      split at hc
      · rename_i h1 h2
        simp only [Option.some.injEq] at hc
        split at hc
        · subst hc; exact f_cvalV hcal h1 h2 hop r f0 hd k
        · subst hc; exact absurd rfl (hny _ _)
        · subst hc; exact f_cvalP hcal h1 h2 hop r f0 hd k
        · subst hc; exact f_cvalO hcal h1 h2 hop r f0 hd k
        · subst hc; exact f_cval hcal h1 h2 hop r f0 hd k
      · cases hc
    · exact val hop hc
  · split at hc
    · rename_i el h1
      split at hc
      · rename_i h2 h3
        split at hc
        · rename_i h4 h5
          split at hc
          · rename_i h6
            obtain ⟨h6, h7, h8, h9⟩ := h6
            simp only [Option.some.injEq] at hc
            split at hc
            · subst hc; exact f_lit h1 h2 h3 h4 h5 h6 h7 h8 h9 hop r f0 hd k
            · subst hc; exact f_bsl h1 h2 h3 h4 h5 h6 h7 h8 h9 hop r f0 hd k
          · cases hc
        · cases hc
      · cases hc
    · cases hc
  · exact val hop hc
omit [Glob] in
theorem compF_yld {hint : AOp} {g' : Opd} {m : List Opd} {op : Op} (hc : compF P hint op = some (.yld g' m)) : ∃ c g, op = .call c ∧ c.callee = .value g ∧ compO g = some g' ∧ compOs c.args.toList = some m := by
  unfold compF at hc
  have val : ∀ {op : Op}, (compE P op).map AOp.e = some (.yld g' m) → False := by
    intro op h
    cases hx : compE P op <;> rw [hx] at h <;> cases h
  split at hc
  · repeat' split at hc
    all_goals cases hc
  · repeat' split at hc
    all_goals cases hc
  · repeat' split at hc
    all_goals cases hc
  · rename_i x
    cases hx : compO x <;> rw [hx] at hc <;> cases hc
  · rename_i c
    split at hc
    · repeat' split at hc
      all_goals cases hc
    · split at hc
      · rename_i x _
        cases hx : compO x <;> rw [hx] at hc <;> cases hc
      · cases hc
    · split at hc
      · cases hx : compOs c.args.toList with
        | none => rw [hx] at hc; cases hc
        | some l =>
          rw [hx] at hc
          simp only [Option.map_some, Option.some.injEq] at hc
          split at hc <;> cases hc
      · cases hc
    · rename_i g _ hcal
      split at hc
      · rename_i h1 h2
        simp only [Option.some.injEq] at hc
        split at hc
        · cases hc
        · cases hc; exact ⟨c, g, rfl, hcal, h1, h2⟩
        · cases hc
        · cases hc
        · cases hc
      · cases hc
    · exact (val hc).elim
  · repeat' split at hc
    all_goals first | cases hc | (simp only [Option.some.injEq] at hc; split at hc <;> cases hc)
  · exact (val hc).elim
omit [Glob] in
theorem compF_defer {hint e : AOp} {op : Op} (h : compF P hint op = some e) : ∀ c, op ≠ .defer c := by
  rintro c rfl
  simp [compF, compE] at h
omit [Glob] in
theorem Oper.wp_anyR {a : Act} {w : World} {K : Act → World → Prop} {Q : Exit → Act → World → Prop} (ro : Option Nat) (hd : ∀ c, o.op ≠ .defer c) (h : o.wp P a w K Q) : o.wpIn (anyR ro) 0 P a w K Q := by
  refine ⟨fun f _ => trivial, ?_⟩
  unfold Oper.wp at h
  rw [Oper.semAt_eq _ _ _ hd]
  generalize (execOp a.eval o).run P w = r at *
  cases r with
  | ok n w' =>
    cases n <;> simp only [Oper.upon] at h <;> simp only [Oper.uponIn]
    case value => exact h
    case skip => exact h
    case defer => exact h
    case enter => exact ⟨fun h => by simp [anyR, Fence.wide] at h, callsIn_wide.2 h⟩
    case row => exact ⟨fun h => by simp [anyR, Fence.wide] at h, fun c cs _ => let ⟨v, w', r, s⟩ := h c cs; ⟨v, w', r, stepsIn_wide.2 s⟩⟩
  | halt x w' => cases x <;> simp only [Oper.upon] at h <;> exact h
/-- A call of the yield of the loop that is being gone round. -/
theorem f_yld {g' : Opd} {m : List Opd} {c : Call} {g : Operand} (ro : Option Nat) (ho : o.op = .call c) (hcal : c.callee = .value g) (hg : compO g = some g') (hm : compOs c.args.toList = some m)
    (r : StRel X lo w a bs s) (f0 : Fr w0 h0 b0 w s.h bs) (hd : ∀ k, o.dst = some k → k < s.nt) (k : astep P s.h s.tm K Qp (.yld g' m)) : o.wpIn (anyR ro) 0 P a w (Goes X lo w0 h0 b0 s o.dst K) (Pans X lo w0 h0 b0 Qp) := by
  refine ⟨fun f _ => trivial, ?_⟩
  rw [Oper.semAt_eq _ _ _ (by rw [ho]; intro c' h; cases h)]
  simp only [astep] at k
  have hg1 := r.opd hg
  generalize hv : a.eval g = gv at hg1
  split at k
  · rename_i e1; rw [e1] at hg1
    cases hg1 with
    | yld ctx hy =>
      obtain ⟨l, rc, tm⟩ := ctx
      obtain ⟨⟨y1, _⟩, _⟩ := r.heap.yR l rc tm hy
      obtain ⟨k1, k2⟩ := k X w bs _ l rc tm hy r.heap (r.opds hm)
      have e : (c.args.map a.eval) = (c.args.toList.map a.eval).toArray := by apply Array.ext'; simp
      have hrun : (execOp a.eval o).run P w = .ok (.round l rc.fn ((rc.params.zip (c.args.toList.map a.eval).toArray).foldl (fun t (p, v) => t.setIfInBounds p v) rc.tmps) rc.assign rc.body) w := by
        simp only [execOp, ho, resolve, hcal, hv, Deferred.ofValue, Sem.run_bind, Sem.run_pure, Result.andThen_ok, invoke]
        simp only [Array.empty_append, Array.append_empty, e]
        exact run_yield y1 (by simpa using k1)
      rw [hrun, Oper.uponIn_round]
      refine ⟨fun h => by simp [anyR, Fence.wide] at h, RoundIn.mono (F := Fence.wide) k2 ?_⟩
      rintro e w' ⟨h', bs', v, x, w1, hh, hf, hv', (⟨rfl, rfl, q⟩ | ⟨rfl, p, q⟩)⟩
      · exact ⟨v, h', bs', q, r.put hh hf hv' o.dst hd, f0.trans hf⟩
      · exact ⟨v, x, h', bs', w1, p, rfl, q, hh, hv', f0.trans hf, r.df.fr hf⟩
  · exact k.elim
/-- What is compiled goes on as is told, in whatever frame. -/
theorem compF_sound {hint e : AOp} (ro : Option Nat) (hc : compF P hint o.op = some e) (r : StRel X lo w a bs s) (f0 : Fr w0 h0 b0 w s.h bs) (hd : ∀ k, o.dst = some k → k < s.nt) (k : astep P s.h s.tm K Qp e) : o.wpIn (anyR ro) 0 P a w (Goes X lo w0 h0 b0 s o.dst K) (Pans X lo w0 h0 b0 Qp) := by
  by_cases hy : ∃ g l, e = .yld g l
  · obtain ⟨g', m, rfl⟩ := hy
    obtain ⟨c, g, h1, h2, h3, h4⟩ := compF_yld hc
    exact f_yld ro h1 h2 h3 h4 r f0 hd k
  · exact Oper.wp_anyR ro (compF_defer hc) (compF_sound0 (fun g l h => hy ⟨g, l, h⟩) hc r f0 hd k)
end

end Go.Pe
