/- What texts are read as, as plain functions on lists. No program in sight; no conditions. -/
import Derived.Test.YtmgoencdjkaobaaGreatDoorPeP
set_option linter.unusedVariables false
set_option linter.unusedSimpArgs false
namespace Go.Pe
theorem splitC_mem (c : UInt8) : ∀ (s p : Str), p ∈ splitC c s → p.length ≤ s.length
  | [], p, h => by simp [splitC] at h; subst h; exact Nat.le_refl _
  | b :: l, p, h => by
    have ih := splitC_mem c l
    simp only [splitC] at h
    split at h
    · rcases List.mem_cons.1 h with rfl | h
      · simp
      · have := ih p h; simp; omega
    · split at h
      · rename_i x r e
        rcases List.mem_cons.1 h with rfl | h
        · have := ih x (by rw [e]; simp); simp; omega
        · have := ih p (by rw [e]; simp [h]); simp; omega
      · rename_i e; exact absurd e (splitC_ne c l)
theorem cutC_len (c : UInt8) : ∀ s : Str, (cutC c s).1.length ≤ s.length ∧ (cutC c s).2.1.length ≤ s.length
  | [] => by simp [cutC]
  | b :: l => by
    have ih := cutC_len c l
    simp only [cutC]
    split
    · simp
    · simp; omega
theorem trimSuffix_len (s p : Str) : (Lib.trimSuffix s p).length ≤ s.length := by
  unfold Lib.trimSuffix
  split
  · rw [List.length_take]; omega
  · exact Nat.le_refl _
def digCh (c : UInt8) : Bool := decide (48 ≤ c.toNat) && decide (c.toNat ≤ 57)
def digits : Str := [48, 49, 50, 51, 52, 53, 54, 55, 56, 57]
theorem digits_ok (b : UInt8) : digits.contains b = digCh b := by
  have h : ∀ n : Fin 256, digits.contains (UInt8.ofNat n.1) = digCh (UInt8.ofNat n.1) := by decide +kernel
  have := h ⟨b.toNat, b.toNat_lt⟩
  simpa using this
theorem trimS_digits (s : Str) : decide (Lib.trimS s digits = []) = s.all digCh := by
  rw [Bool.eq_iff_iff, List.all_eq_true, decide_eq_true_iff, trimS_nil]
  exact forall₂_congr fun b _ => by rw [digits_ok]
theorem magM_digits (M : Nat) : ∀ (s : Str) (acc : Nat), s.all digCh = true → Lib.parseUintM M acc s = .range ∨ ∃ u, Lib.parseUintM M acc s = .ok u
  | [], acc, _ => .inr ⟨acc, rfl⟩
  | c :: r, acc, h => by
    simp [digCh] at h
    obtain ⟨h1, h2⟩ := h
    unfold Lib.parseUintM
    rw [if_pos h1]
    split
    · exact .inl rfl
    · split
      · exact .inl rfl
      · exact magM_digits M r _ (by simpa [digCh] using h2)
theorem parse_digits (s : Str) (hn : s ≠ []) (h : s.all digCh = true) : Lib.parseIntB 64 s = .range ∨ ∃ v, Lib.parseIntB 64 s = .ok v := by
  cases s with
  | nil => exact absurd rfl hn
  | cons c r =>
    have hc : 48 ≤ c.toNat ∧ c.toNat ≤ 57 := by simp [digCh] at h; exact h.1
    have h43 : ¬ (c.toNat = 43 ∨ c.toNat = 45) := by omega
    have hm := magM_digits (2 ^ 64 - 1) (c :: r) 0 h
    unfold Lib.parseIntB
    simp only [if_neg h43]
    have : Lib.parseUintB 64 (c :: r) = Lib.parseUintM (2 ^ 64 - 1) 0 (c :: r) := by simp [Lib.parseUintB]
    rw [this]
    rcases hm with e | ⟨u, e⟩
    · rw [e]; exact .inl rfl
    · rw [e]
      simp only []
      split
      · exact .inl rfl
      · split
        · exact .inl rfl
        · exact .inr ⟨_, rfl⟩
/-- A count as it is written: the number, and what is wrong. -/
def numS (s : Str) : Int × Int :=
  if s = [] ∨ s.all digCh = false ∨ (s.head? = some 48 ∧ s ≠ [48]) then (0, 2)
  else match Lib.parseIntB 64 s with
  | .ok v => (v, 0)
  | _ => (0, 5)
/-- One amount after another: how late the fault is, what there is. -/
def goA : List Str → Int → List Amt → Except Int (Int × List Amt)
  | [], late, l => .ok (late, l)
  | p :: r, late, l =>
    if (cutC 61 p).2.2 = false ∨ (numS (cutC 61 p).2.1).2 = 2 then .error 2
    else goA r (max late (numS (cutC 61 p).2.1).2) (l ++ [⟨(cutC 61 p).1, (numS (cutC 61 p).2.1).1⟩])
theorem goA_spec {B : Amt → Prop} : ∀ (L : List Str) (late : Int) (acc : List Amt) (q : Int) (l : List Amt), (∀ p ∈ L, ∀ n, B ⟨(cutC 61 p).1, n⟩) → (∀ a ∈ acc, B a) → goA L late acc = .ok (q, l) → (∀ a ∈ l, B a) ∧ l.length = acc.length + L.length
  | [], late, acc, q, l, _, ha, h => by simp [goA] at h; obtain ⟨rfl, rfl⟩ := h; exact ⟨ha, rfl⟩
  | p :: r, late, acc, q, l, hL, ha, h => by
    rw [goA] at h
    split at h
    · cases h
    · have := goA_spec r _ _ q l (fun p hp => hL p (by simp [hp])) (fun a hq => by
        rcases List.mem_append.1 hq with hq | hq
        · exact ha a hq
        · simp at hq; subst hq; exact hL p (by simp) _) h
      exact ⟨this.1, by have := this.2; simp at this ⊢; omega⟩
def parseVec (text : Str) : List Amt × Int :=
  if text = [45] then ([], 0) else match goA (splitC 44 text) 0 [] with
  | .error n => ([], n)
  | .ok (late, l) => if late ≠ 0 then ([], late) else if checkVec l ≠ 0 then ([], checkVec l) else (l, 0)
/-- One part after another. -/
def goP {α : Type} (one : Str → Except Int α) : List Str → List α → Except Int (List α)
  | [], l => .ok l
  | p :: r, l => if p = [] then .error 2 else match one p with
    | .error n => .error n
    | .ok a => goP one r (l ++ [a])
theorem goP_len {α : Type} (one : Str → Except Int α) : ∀ (L : List Str) (acc l : List α), goP one L acc = .ok l → l.length = acc.length + L.length
  | [], acc, l, h => by simp [goP] at h; subst h; rfl
  | p :: r, acc, l, h => by
    rw [goP] at h
    split at h
    · cases h
    · split at h
      · cases h
      · have := goP_len one r _ l h
        simp at this ⊢; omega
theorem goP_all {α : Type} {B : α → Prop} (one : Str → Except Int α) : ∀ (L : List Str) (acc l : List α), (∀ p ∈ L, ∀ a, one p = .ok a → B a) → (∀ a ∈ acc, B a) → goP one L acc = .ok l → ∀ a ∈ l, B a
  | [], acc, l, _, ha, h => by simp [goP] at h; subst h; exact ha
  | p :: r, acc, l, hL, ha, h => by
    rw [goP] at h
    split at h
    · cases h
    · split at h
      · cases h
      · rename_i a e
        refine goP_all one r _ l (fun q hq => hL q (by simp [hq])) ?_ h
        intro b hb
        rcases List.mem_append.1 hb with hb | hb
        · exact ha b hb
        · simp at hb; subst hb; exact hL p (by simp) _ e
def partsS {α : Type} (one : Str → Except Int α) (chk : List α → Int) (text : Str) : List α × Int :=
  if text = [45] then ([], 0) else match goP one (splitC 44 text) [] with
  | .error n => ([], n)
  | .ok l => if chk l ≠ 0 then ([], chk l) else (l, 0)
theorem partsS_all {α : Type} {B : α → Prop} (one : Str → Except Int α) (chk : List α → Int) (text : Str) (hB : ∀ p ∈ splitC 44 text, ∀ a, one p = .ok a → B a) : (∀ a ∈ (partsS one chk text).1, B a) ∧ (partsS one chk text).1.length ≤ text.length + 1 := by
  unfold partsS
  split
  · simp
  · split
    · simp
    · rename_i l h
      split
      · simp
      · have := goP_len one _ _ _ h
        rw [splitC_len] at this
        have h2 := List.count_le_length (a := 44) (l := text)
        exact ⟨goP_all one _ _ l hB (by simp) h, by simp at this ⊢; omega⟩
def pairS (p : Str) : Except Int Pair :=
  if (cutC 58 p).2.2 = false ∨ 0 ≤ Lib.indexByte (cutC 58 p).2.1 58 then .error 2 else .ok ⟨(cutC 58 p).1, (cutC 58 p).2.1⟩
def taintS (p : Str) : Except Int Taint :=
  if (cutC 58 p).2.2 = false ∨ 0 ≤ Lib.indexByte (cutC 58 p).2.1 58 then .error 2
  else .ok ⟨(cutC 58 p).1, Lib.trimSuffix (cutC 58 p).2.1 [33], Lib.hasSuffix (cutC 58 p).2.1 [33]⟩
theorem pairS_fine {p : Str} (h : p.length < 2 ^ 48) {a : Pair} (e : pairS p = .ok a) : a.fine := by
  unfold pairS at e
  split at e
  · cases e
  · cases e
    have := cutC_len 58 p
    exact ⟨by show (cutC 58 p).1.length < _; omega, by show (cutC 58 p).2.1.length < _; omega⟩
theorem taintS_fine {p : Str} (h : p.length < 2 ^ 48) {a : Taint} (e : taintS p = .ok a) : a.fine := by
  unfold taintS at e
  split at e
  · cases e
  · cases e
    have := cutC_len 58 p
    have h2 := trimSuffix_len (cutC 58 p).2.1 [33]
    exact ⟨by show (cutC 58 p).1.length < _; omega, by show (Lib.trimSuffix (cutC 58 p).2.1 [33]).length < _; omega⟩
theorem parseVec_all (text : Str) (hs : text.length < 2 ^ 31) : (∀ a ∈ (parseVec text).1, a.fine) ∧ (parseVec text).1.length < 2 ^ 40 := by
  unfold parseVec
  split
  · simp
  · split
    · simp
    · rename_i q l h
      have hg := goA_spec (B := Amt.fine) _ _ _ _ _ (fun p hp n => by
        have := splitC_mem 44 text p hp
        have := (cutC_len 61 p).1
        show (cutC 61 p).1.length < _; omega) (by simp) h
      have h1 := hg.2
      rw [splitC_len] at h1
      have h2 := List.count_le_length (a := 44) (l := text)
      split
      · simp
      · split
        · simp
        · exact ⟨hg.1, by simp at h1 ⊢; omega⟩
theorem pairs_all (text : Str) (hs : text.length < 2 ^ 31) : (∀ a ∈ (partsS pairS checkSet text).1, a.fine) ∧ (partsS pairS checkSet text).1.length < 2 ^ 40 := by
  have := partsS_all (B := Pair.fine) pairS checkSet text (fun p hp a e => pairS_fine (by have := splitC_mem 44 text p hp; omega) e)
  exact ⟨this.1, by omega⟩
theorem taints_all (text : Str) (hs : text.length < 2 ^ 31) : (∀ a ∈ (partsS taintS checkTaints text).1, a.fine) ∧ (partsS taintS checkTaints text).1.length < 2 ^ 40 := by
  have := partsS_all (B := Taint.fine) taintS checkTaints text (fun p hp a e => taintS_fine (by have := splitC_mem 44 text p hp; omega) e)
  exact ⟨this.1, by omega⟩
def parsePairs : Str → List Pair × Int := partsS pairS checkSet
def parseTaints : Str → List Taint × Int := partsS taintS checkTaints
def upS : Str := [117, 112]
def cordonS : Str := [99, 111, 114, 100, 111, 110]
def parseNode (text : Str) : Nd × Int := match splitC 32 text with
  | [a, b, c, d, e] =>
    if e ≠ upS ∧ e ≠ cordonS then (.zero, 2)
    else if (parseVec b).2 ≠ 0 then (.zero, (parseVec b).2)
    else if (parsePairs c).2 ≠ 0 then (.zero, (parsePairs c).2)
    else if (parseTaints d).2 ≠ 0 then (.zero, (parseTaints d).2)
    else if checkNode ⟨a, (parseVec b).1, (parsePairs c).1, (parseTaints d).1, decide (e = cordonS)⟩ ≠ 0 then (.zero, checkNode ⟨a, (parseVec b).1, (parsePairs c).1, (parseTaints d).1, decide (e = cordonS)⟩)
    else (⟨a, (parseVec b).1, (parsePairs c).1, (parseTaints d).1, decide (e = cordonS)⟩, 0)
  | _ => (.zero, 2)

theorem parseNode_zero {text : Str} (h : (parseNode text).2 ≠ 0) : (parseNode text).1 = .zero := by
  revert h
  unfold parseNode
  split
  · repeat' split
    all_goals simp
  · simp
/-! What is written of them. -/
def joinS (l : List Str) : Str := if l = [] then [45] else Lib.join l [44]
def amtT (a : Amt) : Str := a.name ++ [61] ++ Lib.itoa a.n
def pairT (a : Pair) : Str := a.k ++ [58] ++ a.v
def taintT (a : Taint) : Str := if a.hard then a.k ++ [58] ++ a.v ++ [33] else a.k ++ [58] ++ a.v
def nodeT (n : Nd) : Str := Lib.join [n.name, joinS (n.cap.map amtT), joinS (n.labels.map pairT), joinS (n.taints.map taintT), if n.cordon then cordonS else upS] [32]
theorem tail_mem (sep : Str) : ∀ (r : List Str) (x : Str), x ∈ r → x.length ≤ (Lib.joinTail sep r).length
  | a :: r, x, h => by
    have e : Lib.joinTail sep (a :: r) = (sep ++ a) ++ Lib.joinTail sep r := by simp [Lib.joinTail]
    rw [e, List.length_append, List.length_append]
    rcases List.mem_cons.1 h with rfl | h
    · omega
    · have := tail_mem sep r x h; omega
theorem join_mem (sep : Str) : ∀ (r : List Str) (x : Str), x ∈ r → x.length ≤ (Lib.join r sep).length
  | a :: r, x, h => by
    rw [Lib.join_cons, List.length_append]
    rcases List.mem_cons.1 h with rfl | h
    · omega
    · have := tail_mem sep r x h; omega
theorem amtT_len {x : List Amt} {B : Nat} (h : (Lib.join (x.map amtT) [44]).length < B) {a : Amt} (ha : a ∈ x) : a.name.length + 1 + (Lib.itoa a.n).length < B := by
  have := join_mem [44] (x.map amtT) (amtT a) (List.mem_map.2 ⟨a, ha, rfl⟩)
  simp [amtT] at this; omega
theorem pairT_len {x : List Pair} {B : Nat} (h : (Lib.join (x.map pairT) [44]).length < B) {a : Pair} (ha : a ∈ x) : a.k.length + 1 + a.v.length < B := by
  have := join_mem [44] (x.map pairT) (pairT a) (List.mem_map.2 ⟨a, ha, rfl⟩)
  simp [pairT] at this; omega
theorem taintT_len {x : List Taint} {B : Nat} (h : (Lib.join (x.map taintT) [44]).length < B) {a : Taint} (ha : a ∈ x) : a.k.length + 1 + a.v.length < B := by
  have := join_mem [44] (x.map taintT) (taintT a) (List.mem_map.2 ⟨a, ha, rfl⟩)
  simp [taintT] at this; split at this <;> simp at this <;> omega
theorem joinS_len (l : List Str) : (joinS l).length ≤ (Lib.join l [44]).length + 1 := by
  unfold joinS
  split
  · simp
  · omega
end Go.Pe
