/- What the document's words come to, as plain functions on lists. No program in sight; no conditions. -/
import Derived.Test.YtmgoencdjkaobaaGreatDoorPeJ
import Derived.Lib.Split
import Derived.Lib.ParseIntB
import Derived.Lib.ItoaNum
import Derived.Lib.SlTrimSet
import Derived.Lib.Strings
import Derived.Lib.Join
import Derived.Sort.Grow
set_option linter.unusedVariables false
set_option linter.unusedSimpArgs false
namespace Go.Pe
/-- Texts. -/
abbrev Str := List UInt8
structure Amt where
  name : Str
  n : Int
  deriving DecidableEq
structure Pair where
  k : Str
  v : Str
  deriving DecidableEq
structure Taint where
  k : Str
  v : Str
  hard : Bool
  deriving DecidableEq
structure Tol where
  k : Str
  v : Str
  any : Bool
  deriving DecidableEq
structure Term where
  op : Int
  k : Str
  v : Str
  deriving DecidableEq
structure Nd where
  name : Str
  cap : List Amt
  labels : List Pair
  taints : List Taint
  cordon : Bool
  deriving DecidableEq
structure Pd where
  name : Str
  owner : Str
  prio : Int
  need : List Amt
  labels : List Pair
  sel : List Term
  tols : List Tol
  key : Str
  most : Int
  node : Str
  hold : Bool
  deriving DecidableEq
@[simp] def Amt.av (a : Amt) : AV := .agg [.str a.name, .int .i64 a.n]
@[simp] def Pair.av (a : Pair) : AV := .agg [.str a.k, .str a.v]
@[simp] def Taint.av (a : Taint) : AV := .agg [.str a.k, .str a.v, .bool a.hard]
@[simp] def Tol.av (a : Tol) : AV := .agg [.str a.k, .str a.v, .bool a.any]
@[simp] def Term.av (a : Term) : AV := .agg [.int .i64 a.op, .str a.k, .str a.v]
@[simp] def Nd.av (n : Nd) : AV := .agg [.str n.name, .sl 2 (n.cap.map Amt.av), .sl 2 (n.labels.map Pair.av), .sl 3 (n.taints.map Taint.av), .bool n.cordon]
@[simp] def Pd.av (p : Pd) : AV := .agg [.str p.name, .str p.owner, .int .i64 p.prio, .sl 2 (p.need.map Amt.av), .sl 2 (p.labels.map Pair.av), .sl 3 (p.sel.map Term.av), .sl 3 (p.tols.map Tol.av), .str p.key, .int .i64 p.most, .str p.node, .bool p.hold]

theorem w64 {n : Int} (h : -9223372036854775808 ≤ n ∧ n ≤ 9223372036854775807) : IntKind.i64.wrap n = n := by rw [IntKind.wrap_i64]; omega
@[simp] theorem pureL_map {α : Type} {f : α → AV} {l : List α} : pureL (l.map f) = true ↔ ∀ a ∈ l, (f a).pure = true := by
  rw [pureL_iff]; simp
@[simp] theorem noYL_map {α : Type} {f : α → AV} {l : List α} : noYL (l.map f) = true ↔ ∀ a ∈ l, (f a).noY = true := by
  rw [noYL_iff]; simp
theorem step64 {i n : Nat} (h : i < n) (hn : n < 2 ^ 48) : IntKind.i64.wrap ((i : Int) + 1) = ((i + 1 : Nat) : Int) := by rw [w64 (by omega)]; simp

/-! Names; what is wrong with rows. -/
def nameCh (c : UInt8) : Bool := (decide (97 ≤ c.toNat) && decide (c.toNat ≤ 122)) || (decide (48 ≤ c.toNat) && decide (c.toNat ≤ 57))
def isName (s : Str) : Bool := decide (1 ≤ s.length) && (decide (s.length ≤ 12) && s.all nameCh)
/-- Not behind. -/
def leS (a b : Str) : Bool := Op.bytesLess a b || a == b
/-- x is behind what stands ahead of it, if anything does. -/
def beh (p : Option Str) (x : Str) : Bool := match p with
  | none => true
  | some q => !leS x q
def ckV : Option Str → List Amt → Int
  | _, [] => 0
  | p, x :: r => if isName x.name = false then 3 else if x.n ≤ 0 then 1 else if beh p x.name = false then 13 else ckV (some x.name) r
def checkVec (v : List Amt) : Int := if 8 < v.length then 4 else ckV none v
def ckS : Option Str → List Pair → Int
  | _, [] => 0
  | p, x :: r => if (isName x.k && isName x.v) = false then 3 else if beh p x.k = false then 13 else ckS (some x.k) r
def checkSet (v : List Pair) : Int := if 8 < v.length then 4 else ckS none v
def ckT : List Taint → List Taint → Int
  | _, [] => 0
  | pre, x :: r => if (isName x.k && isName x.v) = false then 3 else if (pre.any fun y => decide (y.k = x.k) && decide (y.v = x.v)) = true then 6 else ckT (pre ++ [x]) r
def sameT (x y : Taint) : Bool := decide (y.k = x.k) && decide (y.v = x.v)
def checkTaints (v : List Taint) : Int := if 8 < v.length then 4 else ckT [] v
def tolOK (t : Tol) : Bool := (decide (t.k = []) || isName t.k) && (if t.any then decide (t.v = []) else isName t.v)
def ckTol : List Tol → Int
  | [] => 0
  | x :: r => if tolOK x = false then 3 else ckTol r
def checkTols (v : List Tol) : Int := if 8 < v.length then 4 else ckTol v
def ckSel : List Term → Int
  | [] => 0
  | t :: r => if t.op < 1 ∨ 4 < t.op then 1 else if (isName t.k && (if t.op ≤ 2 then isName t.v else decide (t.v = []))) = false then 3 else ckSel r
def checkSel (v : List Term) : Int := if 8 < v.length then 4 else ckSel v
def checkNode (n : Nd) : Int := if isName n.name = false then 3 else if checkVec n.cap ≠ 0 then checkVec n.cap else if checkSet n.labels ≠ 0 then checkSet n.labels else checkTaints n.taints
def ckRows {α : Type} (name : α → Str) (check : α → Int) : Option Str → List α → Int
  | _, [] => 0
  | p, x :: r => if check x ≠ 0 then check x else if beh p (name x) = false then 13 else ckRows name check (some (name x)) r
def checkNodes (l : List Nd) : Int := if 32 < l.length then 4 else ckRows Nd.name checkNode none l
def Nd.zero : Nd := ⟨[], [], [], [], false⟩
def findNode (l : List Nd) (name : Str) : Nd × Bool := match l.find? (fun n => decide (n.name = name)) with
  | some n => (n, true)
  | none => (Nd.zero, false)

/-! What is short. -/
def few2 (x : List Amt) : Bool := decide (x.length ≤ 20) && x.all fun a => decide (a.name.length ≤ 50)
def few4 (x : List Pair) : Bool := decide (x.length ≤ 20) && x.all fun a => decide (a.k.length ≤ 50 ∧ a.v.length ≤ 50)
def few5 (x : List Taint) : Bool := decide (x.length ≤ 20) && x.all fun a => decide (a.k.length ≤ 50 ∧ a.v.length ≤ 50)
def fewN (n : Nd) : Bool := decide (n.name.length ≤ 50) && (few2 n.cap && (few4 n.labels && few5 n.taints))
/-- No row is longer than any machine can hold. -/
structure Nd.ok (n : Nd) : Prop where
  cap : n.cap.length < 2 ^ 40
  labels : n.labels.length < 2 ^ 40
  taints : n.taints.length < 2 ^ 40

/-- No text is longer than any machine can hold. -/
def Amt.fine (a : Amt) : Prop := a.name.length < 2 ^ 48
def Pair.fine (a : Pair) : Prop := a.k.length < 2 ^ 48 ∧ a.v.length < 2 ^ 48
def Taint.fine (a : Taint) : Prop := a.k.length < 2 ^ 48 ∧ a.v.length < 2 ^ 48
def Tol.fine (a : Tol) : Prop := a.k.length < 2 ^ 48 ∧ a.v.length < 2 ^ 48
def Term.fine (a : Term) : Prop := a.k.length < 2 ^ 48 ∧ a.v.length < 2 ^ 48
structure Nd.fine (n : Nd) : Prop where
  ok : n.ok
  name : n.name.length < 2 ^ 48
  cap : ∀ a ∈ n.cap, a.fine
  labels : ∀ a ∈ n.labels, a.fine
  taints : ∀ a ∈ n.taints, a.fine

/-! Texts cut at a byte. -/
def cutC (c : UInt8) : Str → Str × Str × Bool
  | [] => ([], [], false)
  | b :: l => if b = c then ([], l, true) else (b :: (cutC c l).1, (cutC c l).2.1, (cutC c l).2.2)
def splitC (c : UInt8) : Str → List Str
  | [] => [[]]
  | b :: l => if b = c then [] :: splitC c l else match splitC c l with
    | x :: r => (b :: x) :: r
    | [] => [[b]]
theorem splitC_ne (c : UInt8) (s : Str) : splitC c s ≠ [] := by
  cases s with
  | nil => simp [splitC]
  | cons b l =>
    simp only [splitC]
    split
    · simp
    · split <;> simp
theorem splitC_len (c : UInt8) : ∀ (s : Str), (splitC c s).length = s.count c + 1
  | [] => rfl
  | b :: l => by
    have ih := splitC_len c l
    simp only [splitC]
    split
    · rename_i h; subst h; simp [ih]
    · rename_i h
      split
      · rename_i h2; rw [h2] at ih; simp at ih; simp [h, ih]
      · rename_i h2; exact absurd h2 (splitC_ne c l)
theorem index_one (c : UInt8) : ∀ (s : Str), Lib.index s [c] = Lib.indexByte s c
  | [] => rfl
  | b :: l => by
    have ih := index_one c l
    unfold Lib.index Lib.indexByte
    rw [ih]
    by_cases h : b = c
    · subst h; simp [List.isPrefixOf]
    · have h1 : ([c].isPrefixOf (b :: l)) = false := by simp [List.isPrefixOf, Ne.symm h]
      have h2 : (b == c) = false := by simpa using h
      rw [h1, h2]
theorem indexByte_cut (c : UInt8) : ∀ (s : Str), (Lib.indexByte s c = -1 ∧ (cutC c s) = (s, [], false) ∧ splitC c s = [s] ∧ s.count c = 0) ∨ ∃ i : Nat, Lib.indexByte s c = i ∧ i < s.length ∧ cutC c s = (s.take i, s.drop (i + 1), true) ∧ splitC c s = s.take i :: splitC c (s.drop (i + 1)) ∧ s.count c = (s.drop (i + 1)).count c + 1
  | [] => .inl ⟨rfl, rfl, rfl, rfl⟩
  | b :: l => by
    by_cases h : b = c
    · subst h
      exact .inr ⟨0, by simp [Lib.indexByte], by simp, by simp [cutC], by simp [splitC], by simp⟩
    · rcases indexByte_cut c l with ⟨h1, h2, h3, h4⟩ | ⟨i, h1, h2, h3, h4, h5⟩
      · exact .inl ⟨by simp [Lib.indexByte, h, h1], by simp [cutC, h, h2], by simp [splitC, h, h3], by simp [h, h4]⟩
      · refine .inr ⟨i + 1, ?_, by simp; omega, by simp [cutC, h, h3], by simp [splitC, h, h4], by simp [h, h5]⟩
        have : ¬ ((i : Int) = -1) := by omega
        simp [Lib.indexByte, h, h1, this]
theorem cut_one (c : UInt8) (s : Str) : Lib.cut s [c] = cutC c s := by
  rw [Lib.cut, index_one]
  rcases indexByte_cut c s with ⟨h1, h2, _, _⟩ | ⟨i, h1, h2, h3, _⟩
  · rw [h1, h2]; simp
  · rw [h1, h3]; simp
theorem splitK_one (c : UInt8) : ∀ (n : Nat) (s : Str), s.count c ≤ n → Lib.splitK [c] 0 n s = splitC c s
  | 0, s, h => by
    rcases indexByte_cut c s with ⟨h1, h2, h3, h4⟩ | ⟨i, h1, h2, h3, h4, h5⟩
    · simp [Lib.splitK, h3]
    · omega
  | n + 1, s, h => by
    rw [Lib.splitK, index_one]
    rcases indexByte_cut c s with ⟨h1, h2, h3, h4⟩ | ⟨i, h1, h2, h3, h4, h5⟩
    · simp [h1, h3]
    · have : ¬ ((i : Int) = -1) := by omega
      rw [h1, h4, if_neg (by simp)]
      simp only [Int.toNat_natCast, Nat.add_zero, List.length_singleton]
      rw [splitK_one c n _ (by omega)]
/-- What stands ahead of row i. -/
def pv {α : Type} (f : α → Str) (x : List α) : Nat → Option Str
  | 0 => none
  | j + 1 => x[j]?.map f
theorem rep_tup2 {X : Env} {w : World} {h : List AObj} {bs : List (Option Nat)} {a b : AV} {x y : Value} (h1 : Rep X w h bs a x) (h2 : Rep X w h bs b y) : Rep X w h bs (.tup [a, b]) (.tuple #[x, y]) := by
  refine .tup _ _ rfl fun j z v e1 e2 => ?_
  match j with
  | 0 => cases e1; cases e2; exact h1
  | 1 => cases e1; cases e2; exact h2
  | j + 2 => simp at e1
theorem rep_tup3 {X : Env} {w : World} {h : List AObj} {bs : List (Option Nat)} {a b c : AV} {x y z : Value} (h1 : Rep X w h bs a x) (h2 : Rep X w h bs b y) (h3 : Rep X w h bs c z) : Rep X w h bs (.tup [a, b, c]) (.tuple #[x, y, z]) := by
  refine .tup _ _ rfl fun j u v e1 e2 => ?_
  match j with
  | 0 => cases e1; cases e2; exact h1
  | 1 => cases e1; cases e2; exact h2
  | 2 => cases e1; cases e2; exact h3
  | j + 3 => simp at e1
theorem below_grow {B : Nat} {a w : World} (h : Go.RowKit.Below B a w) (hB : B ≤ w.heap.size) (os : Array Obj) : Go.RowKit.Below B a (Go.Sort.grow w os) := by
  refine h.trans ⟨rfl, rfl, rfl, by simp [Go.Sort.grow], fun b hb => ?_⟩
  show (w.heap ++ os)[b]? = _
  rw [Array.getElem?_append_left (by omega)]
/-! What is left of a text whose ends are cut. -/
def letters : Str := [97, 98, 99, 100, 101, 102, 103, 104, 105, 106, 107, 108, 109, 110, 111, 112, 113, 114, 115, 116, 117, 118, 119, 120, 121, 122, 48, 49, 50, 51, 52, 53, 54, 55, 56, 57]
theorem letters_ok (b : UInt8) : letters.contains b = nameCh b := by
  have h : ∀ n : Fin 256, letters.contains (UInt8.ofNat n.1) = nameCh (UInt8.ofNat n.1) := by decide +kernel
  have := h ⟨b.toNat, b.toNat_lt⟩
  simpa using this
theorem dropWhile_nil {α : Type} (p : α → Bool) : ∀ l : List α, l.dropWhile p = [] ↔ ∀ b ∈ l, p b = true
  | [] => by simp
  | a :: l => by
    rw [List.dropWhile_cons]
    by_cases h : p a = true
    · rw [if_pos h, dropWhile_nil p l]; simp [h]
    · rw [if_neg h]; simp [h]
theorem trimS_nil (s cs : Str) : Lib.trimS s cs = [] ↔ ∀ b ∈ s, cs.contains b = true := by
  have e := List.takeWhile_append_dropWhile (p := (cs.contains ·)) (l := s.reverse)
  have ht : ∀ b ∈ s.reverse.takeWhile (cs.contains ·), cs.contains b = true := fun b hb => List.all_eq_true.mp List.all_takeWhile b hb
  have hs : s = Lib.trimRightS s cs ++ (s.reverse.takeWhile (cs.contains ·)).reverse := by
    have := congrArg List.reverse e
    rw [List.reverse_append, List.reverse_reverse] at this
    exact this.symm
  unfold Lib.trimS Lib.trimLeftS
  rw [dropWhile_nil]
  constructor
  · intro h b hb
    rw [hs, List.mem_append, List.mem_reverse] at hb
    exact hb.elim (h b) (ht b)
  · intro h b hb
    exact h b (by rw [hs]; exact List.mem_append_left _ hb)
theorem isName_trim (s : Str) : isName s = (decide (1 ≤ s.length) && (decide (s.length ≤ 12) && decide (Lib.trimS s letters = []))) := by
  unfold isName
  congr 2
  rw [Bool.eq_iff_iff, List.all_eq_true, decide_eq_true_iff, trimS_nil]
  exact forall₂_congr fun b _ => by rw [letters_ok]
/-- The first that is not zero. -/
def firstI : List Int → Int
  | [] => 0
  | x :: r => if x = 0 then firstI r else x
/-- Where the first such stands. -/
def idx {α : Type} (p : α → Bool) : List α → Int
  | [] => -1
  | x :: r => if p x then 0 else if idx p r = -1 then -1 else idx p r + 1
theorem idx_at {α : Type} (p : α → Bool) : ∀ (l : List α) (i : Nat) (h : i < l.length), (∀ y ∈ l.take i, p y = false) → p l[i] = true → idx p l = i
  | x :: r, 0, _, _, hp => by simp at hp; simp [idx, hp]
  | x :: r, i + 1, h, hn, hp => by
    have := idx_at p r i (by simpa using h) (fun y hy => hn y (by simp [hy])) (by simpa using hp)
    have hx := hn x (by simp)
    have : ¬ ((i : Int) = -1) := by omega
    simp [idx, hx, *]
theorem idx_none {α : Type} (p : α → Bool) : ∀ (l : List α), (∀ y ∈ l, p y = false) → idx p l = -1
  | [], _ => rfl
  | x :: r, h => by simp [idx, h x (by simp), idx_none p r fun y hy => h y (by simp [hy])]
theorem idx_ge {α : Type} (p : α → Bool) : ∀ (l : List α), -1 ≤ idx p l
  | [] => by simp [idx]
  | x :: r => by
    have := idx_ge p r
    simp only [idx]; split
    · omega
    · split <;> omega
theorem idx_any {α : Type} (p : α → Bool) : ∀ (l : List α), decide (0 ≤ idx p l) = l.any p
  | [] => rfl
  | x :: r => by
    have h1 := idx_any p r
    have h2 := idx_ge p r
    rw [List.any_cons, ← h1]
    by_cases hx : p x = true
    · simp [idx, hx]
    · by_cases h3 : idx p r = -1
      · simp [idx, hx, h3]
      · have h4 : 0 ≤ idx p r := by omega
        have h5 : 0 ≤ idx p r + 1 := by omega
        simp [idx, hx, h3, h4, h5]
end Go.Pe
