/- Contracts: label.Parts: a text's parts, one after another. The conditions stand in each. -/
import Derived.Test.YtmgoencdjkaobaaGreatDoorNpR
import Derived.Test.YtmgoencdjkaobaaGreatDoorNpTry
set_option linter.unusedVariables false
set_option linter.unusedSimpArgs false
namespace Go.Proofs.YtmgoencdjkaobaaGreatDoor
open Go Go.Pe
attribute [local irreducible] Aw
theorem tryS {g : FuncId} {cap : List AV} {h : List AObj} (R : Int → List AObj → Prop) (hg : callOK Tryz.prog g = true)
    (k : VH Tryz.prog g cap h fun o h' => match o with
      | .ret _ => R 0 h'
      | .pan v => ∃ n, v = stopV n ∧ R n h') : VH Tryz.prog 71 [.fn g cap] h fun o h' => ∃ n, o = .ret (.int .i64 n) ∧ R n h' :=
  Co.tryH hg (k.mono fun o h' q => by
    cases o with
    | ret v => exact ⟨0, rfl, q⟩
    | pan v => obtain ⟨n, e, q⟩ := q; exact ⟨n, e, n, rfl, q⟩)
theorem h151 (s : Str) (c : UInt8) (h : List AObj) (ho : okH h) : VH Tryz.prog 151 [.str s, .str [c], .int .i64 0] h fun o h' => o = .ret (.fn 172 [.ptr (h.length + 1) 0 0 0, .ptr h.length 0 0 0, .ptr (h.length + 2) 0 0 0]) ∧ h' = h ++ bx s c := by
  refine VH_of p151 (by simp) ?_
  unfold c151
  simp -implicitDefEqProofs [retQ, resK]
  refine endQ_keep (by simp) ?_ (by simp [AV.refs, refsL]) ⟨rfl, by simp [bx]⟩
  intro ob hob
  simp at hob
  rcases hob with hob | rfl | rfl | rfl
  · rcases ho.2 ob hob with q | q
    · exact .inl q
    · exact .inr (by simp; omega)
  · exact .inr (by simp [refsL, AV.refs])
  · exact .inr (by simp [refsL, AV.refs])
  · exact .inr (by simp [refsL, AV.refs])
theorem h120 (s : Str) (c : UInt8) (h : List AObj) (ho : okH h) : VH Tryz.prog 120 [.str s, .str [c]] h fun o h' => o = .ret (.fn 172 [.ptr (h.length + 1) 0 0 0, .ptr h.length 0 0 0, .ptr (h.length + 2) 0 0 0]) ∧ h' = h ++ bx s c := by
  refine VH_of p120 (by simp) ?_
  unfold c120
  simp -implicitDefEqProofs
  refine callH_of (h151 s c h ho) ?_ ?_
  · rintro v h' ⟨e, rfl⟩
    cases e
    simp -implicitDefEqProofs [retQ, resK]
    refine endQ_keep (by simp) ?_ (by simp [AV.refs, refsL, bx]) ⟨rfl, rfl⟩
    intro ob hob
    simp [bx] at hob
    rcases hob with hob | rfl | rfl | rfl
    · rcases ho.2 ob hob with q | q
      · exact .inl q
      · exact .inr (by simp; omega)
    · exact .inr (by simp [refsL, AV.refs])
    · exact .inr (by simp [refsL, AV.refs])
    · exact .inr (by simp [refsL, AV.refs])
  · rintro v h' ⟨e, _⟩
    cases e

/-! Parts of Pair. -/
def cellPair (k : Nat) : List Pair → AV
  | [] => .nils
  | l => .osl k (l.length - 1) 0 l.length
def rowPair (l : List Pair) : List AObj := match l with
  | [] => []
  | l => [⟨l.length - 1, 2, 121, true, l.map Pair.av⟩]
def prPair (text : Str) (g1 g2 : FuncId) (l : List Pair) : List AObj := [⟨0, 1, 9, false, [.str text]⟩, ⟨0, 1, 196, false, [.fn g1 []]⟩, ⟨0, 1, 197, false, [.fn g2 []]⟩, ⟨0, 1, 27, false, [cellPair 7 l]⟩]
theorem okPair (text : Str) (g1 g2 : FuncId) (l : List Pair) : (prPair text g1 g2 l).length = 4 ∧ ∀ t, okH (prPair text g1 g2 l ++ (bx t 44 ++ rowPair l)) := by
  refine ⟨rfl, fun t => ?_⟩
  cases l with
  | nil => simp [prPair, cellPair, rowPair, okH, noYH, bx, AV.refs, refsL]
  | cons a l => simp [prPair, cellPair, rowPair, okH, noYH, bx, AV.refs, refsL]
theorem h154 (text : Str) (g1 g2 : FuncId) (one : Str → Except Int Pair) (chk : List Pair → Int) (hs : text.length < 2 ^ 31)
    (ok1 : callOK Tryz.prog g1 = true) (ok2 : callOK Tryz.prog g2 = true)
    (h1 : ∀ p : Str, p.length < 2 ^ 31 → V Tryz.prog g1 [.str p] (match one p with | .ok a => .ret a.av | .error n => .pan (stopV n)))
    (h1n : ∀ p n, one p = .error n → n ≠ 0)
    (h2 : ∀ l, goP one (splitC 44 text) [] = .ok l → V Tryz.prog g2 [.sl 2 (l.map Pair.av)] (.ret (.int .i64 (chk l))))
    {K : Out → List AObj → Prop} (kr : ∀ l t, goP one (splitC 44 text) [] = .ok l → chk l = 0 → K (.ret (.tup [])) (prPair text g1 g2 l ++ (bx t 44 ++ rowPair l)))
    (kp : ∀ n h', n ≠ 0 → (match goP one (splitC 44 text) [] with | .error m => m = n | .ok l => chk l = n) → K (.pan (stopV n)) h') :
    VH Tryz.prog 154 [.ptr 0 0 0 0, .ptr 3 0 0 0, .ptr 1 0 0 0, .ptr 2 0 0 0] (prPair text g1 g2 []) K := by
  refine VH_of p154 (by simp) ?_
  unfold c154
  simp -implicitDefEqProofs [-Aw_rng, prPair, cellPair]
  refine callH_of (h120 text 44 _ (by simp [okH, noYH, AV.refs, refsL])) ?_ (fun v h' ⟨e, _⟩ => by cases e)
  rintro v h' ⟨e, rfl⟩
  cases e
  simp -implicitDefEqProofs [-Aw_rng]
  refine aw_split 44 4 (fun L pre post => ∃ l, (goP one L l = goP one (splitC 44 text) [] ∧ l.length + L.length = (splitC 44 text).length) ∧ pre = prPair text g1 g2 l ∧ post = rowPair l) text (prPair text g1 g2 []) (rowPair []) (by omega) ⟨[], ⟨rfl, by simp⟩, rfl, rfl⟩ ?_ (by simp) ?_ ?_
  · rintro L pre post ⟨l, _, rfl, rfl⟩
    exact okPair text g1 g2 l
  · rintro t p r pre post R m hp ⟨l, ⟨hl, hk⟩, rfl, rfl⟩ hR hP hm
    rw [List.length_cons] at hk
    have ho := (okPair text g1 g2 l).2 t
    have hpan : ∀ n, n ≠ 0 → goP one (p :: r) l = .error n → R (.pan (stopV n)) (prPair text g1 g2 l ++ (bx t 44 ++ rowPair l)) := by
      intro n hn he
      refine hP _ n (Nat.le_refl _) ho ?_
      simp -implicitDefEqProofs [retQ]
      refine endQ_keep (by simp [prPair]) ho.2 (by simp [stopV, AV.refs, refsL]) (kp n _ hn ?_)
      rw [← hl, he]
    simp -implicitDefEqProofs [-Aw_rng]
    refine ⟨by simp at hm; omega, fun hz => callB_pan (stopP (by decide)) (hpan 2 (by decide) (by rw [goP, if_pos hz])), fun hz => ?_⟩
    rw [goP, if_neg hz] at hpan hl
    have h1p := h1 p (by omega)
    rcases l with _ | ⟨a0, l0⟩
    · simp -implicitDefEqProofs [prPair, cellPair]
      refine ⟨ok1, ?_⟩
      cases ho : one p with
      | error n =>
        rw [ho] at h1p hpan
        refine callB_pan h1p ?_
        have := hpan n (h1n p n ho) rfl
        simpa [prPair, cellPair] using this
      | ok a =>
        rw [ho] at h1p hl
        refine callB_ret h1p ?_
        simp -implicitDefEqProofs [prPair, cellPair]
        have := hR (prPair text g1 g2 [a]) (rowPair [a]) (by simp [rowPair]) ⟨[a], ⟨hl, by simpa [Nat.add_comm] using hk⟩, rfl, rfl⟩
        simpa [prPair, cellPair, rowPair, bx] using this
    · simp -implicitDefEqProofs [prPair, cellPair, rowPair, bx]
      refine ⟨ok1, ?_⟩
      cases ho : one p with
      | error n =>
        rw [ho] at h1p hpan
        refine callB_pan h1p ?_
        have := hpan n (h1n p n ho) rfl
        simpa [prPair, cellPair, rowPair, bx] using this
      | ok a =>
        rw [ho] at h1p hl
        refine callB_ret h1p ?_
        simp -implicitDefEqProofs [prPair, cellPair, rowPair, bx]
        have := hR (prPair text g1 g2 (a0 :: l0 ++ [a])) (rowPair (a0 :: l0 ++ [a])) (by simp [rowPair]) ⟨a0 :: l0 ++ [a], ⟨hl, by simp at hk ⊢; omega⟩, rfl, rfl⟩
        refine ⟨by rw [splitC_len] at hk; have := List.count_le_length (a := 44) (l := text); simp at hk; omega, ?_⟩
        simpa [prPair, cellPair, rowPair, bx] using this
  · rintro t pre post ⟨l, ⟨hl, hk⟩, rfl, rfl⟩
    have hl : goP one (splitC 44 text) [] = .ok l := hl.symm
    have ho := (okPair text g1 g2 l).2 t
    have h2l := h2 l hl
    have hr0 := kr l t hl
    have hp0 : chk l ≠ 0 → K (.pan (stopV (chk l))) (prPair text g1 g2 l ++ (bx t 44 ++ rowPair l)) := fun h => kp _ _ h (by rw [hl])
    simp -implicitDefEqProofs [-Aw_rng]
    rcases l with _ | ⟨a0, l0⟩
    · rw [splitC_len] at hk; simp at hk
    · simp -implicitDefEqProofs [prPair, cellPair, rowPair, bx]
      refine ⟨ok2, callF_of h2l (by simp [List.take_of_length_le]) (by simp) rfl ?_⟩
      simp -implicitDefEqProofs
      by_cases hc : chk (a0 :: l0) = 0
      · rw [hc]
        refine callB_ret stopR ?_
        simp -implicitDefEqProofs [retQ, resK]
        have := endQ_keep (K := K) (mk := .ret) (v := .tup []) (base := 4) (by simp [prPair]) ho.2 (by simp [AV.refs, refsL]) (hr0 hc)
        simpa [prPair, cellPair, rowPair, bx, tupV] using this
      · refine callB_pan (stopP hc) ?_
        simp -implicitDefEqProofs [retQ]
        have := endQ_keep (K := K) (mk := .pan) (v := stopV (chk (a0 :: l0))) (base := 4) (by simp [prPair]) ho.2 (by simp [stopV, AV.refs, refsL]) (hp0 hc)
        simpa [prPair, cellPair, rowPair, bx] using this
theorem v122 (text : Str) (g1 g2 : FuncId) (one : Str → Except Int Pair) (chk : List Pair → Int) (hs : text.length < 2 ^ 31)
    (ok1 : callOK Tryz.prog g1 = true) (ok2 : callOK Tryz.prog g2 = true)
    (h1 : ∀ p : Str, p.length < 2 ^ 31 → V Tryz.prog g1 [.str p] (match one p with | .ok a => .ret a.av | .error n => .pan (stopV n)))
    (h1n : ∀ p n, one p = .error n → n ≠ 0)
    (h2 : ∀ l, goP one (splitC 44 text) [] = .ok l → V Tryz.prog g2 [.sl 2 (l.map Pair.av)] (.ret (.int .i64 (chk l)))) :
    V Tryz.prog 122 [.str text, .fn g1 [], .fn g2 []] (.ret (.tup [.sl 2 ((partsS one chk text).1.map Pair.av), .int .i64 (partsS one chk text).2])) := by
  suffices h : V Tryz.prog 122 [.str text, .fn g1 [], .fn g2 []] (.ret (.tup [match (partsS one chk text).1 with | [] => .nils | l => .sl 2 (l.map Pair.av), .int .i64 (partsS one chk text).2])) by
    cases hl : (partsS one chk text).1 with
    | nil => rw [hl] at h; exact h.weak (.tupL (.cons (.nils 2) (.cons (.refl _) .nil)))
    | cons a l => rw [hl] at h; exact h
  refine V_of p122 (by simp) (by simp) (by cases (partsS one chk text).1 <;> simp [Out.pure]) ?_
  unfold c122
  simp -implicitDefEqProofs
  refine ⟨fun e => by simp [partsS, e], fun e => ?_⟩
  have hc : VH Tryz.prog 71 [.fn 154 [.ptr 0 0 0 0, .ptr 3 0 0 0, .ptr 1 0 0 0, .ptr 2 0 0 0]] (prPair text g1 g2 []) _ :=
    tryS (fun n h' => (n ≠ 0 ∧ partsS one chk text = ([], n)) ∨ (n = 0 ∧ ∃ l t, l ≠ [] ∧ partsS one chk text = (l, 0) ∧ h' = prPair text g1 g2 l ++ (bx t 44 ++ rowPair l))) (by kernel_rfl) (h154 text g1 g2 one chk hs ok1 ok2 h1 h1n h2 ?_ ?_)
  · refine callH_of hc ?_ ?_
    · rintro v h' ⟨n, e1, ⟨hn, hv⟩ | ⟨rfl, l, t, hl, hv, rfl⟩⟩
      · cases e1
        simp -implicitDefEqProofs
        exact ⟨fun _ => by rw [hv]; exact ⟨rfl, rfl⟩, fun h => absurd h hn⟩
      · cases e1
        cases l with
        | nil => exact absurd rfl hl
        | cons a l =>
          simp -implicitDefEqProofs [prPair, cellPair, rowPair, bx]
          rw [hv, List.take_of_length_le (by simp)]; exact ⟨rfl, rfl⟩
    · rintro v h' ⟨n, e1, _⟩; cases e1
  · intro l t h3 h4
    refine .inr ⟨rfl, l, t, ?_, by simp [partsS, e, h3, h4], rfl⟩
    rintro rfl
    have := goP_len one _ _ _ h3
    rw [splitC_len] at this; simp at this
  · intro n h' hn h3
    refine ⟨n, rfl, .inl ⟨hn, ?_⟩⟩
    unfold partsS
    rw [if_neg e]
    split at h3
    · rename_i hg; rw [hg, h3]
    · rename_i hg; rw [hg]; simp [h3, hn]

/-! Parts of Taint. -/
def cellTaint (k : Nat) : List Taint → AV
  | [] => .nils
  | l => .osl k (l.length - 1) 0 l.length
def rowTaint (l : List Taint) : List AObj := match l with
  | [] => []
  | l => [⟨l.length - 1, 3, 143, true, l.map Taint.av⟩]
def prTaint (text : Str) (g1 g2 : FuncId) (l : List Taint) : List AObj := [⟨0, 1, 9, false, [.str text]⟩, ⟨0, 1, 201, false, [.fn g1 []]⟩, ⟨0, 1, 148, false, [.fn g2 []]⟩, ⟨0, 1, 29, false, [cellTaint 7 l]⟩]
theorem okTaint (text : Str) (g1 g2 : FuncId) (l : List Taint) : (prTaint text g1 g2 l).length = 4 ∧ ∀ t, okH (prTaint text g1 g2 l ++ (bx t 44 ++ rowTaint l)) := by
  refine ⟨rfl, fun t => ?_⟩
  cases l with
  | nil => simp [prTaint, cellTaint, rowTaint, okH, noYH, bx, AV.refs, refsL]
  | cons a l => simp [prTaint, cellTaint, rowTaint, okH, noYH, bx, AV.refs, refsL]
theorem h155 (text : Str) (g1 g2 : FuncId) (one : Str → Except Int Taint) (chk : List Taint → Int) (hs : text.length < 2 ^ 31)
    (ok1 : callOK Tryz.prog g1 = true) (ok2 : callOK Tryz.prog g2 = true)
    (h1 : ∀ p : Str, p.length < 2 ^ 31 → V Tryz.prog g1 [.str p] (match one p with | .ok a => .ret a.av | .error n => .pan (stopV n)))
    (h1n : ∀ p n, one p = .error n → n ≠ 0)
    (h2 : ∀ l, goP one (splitC 44 text) [] = .ok l → V Tryz.prog g2 [.sl 3 (l.map Taint.av)] (.ret (.int .i64 (chk l))))
    {K : Out → List AObj → Prop} (kr : ∀ l t, goP one (splitC 44 text) [] = .ok l → chk l = 0 → K (.ret (.tup [])) (prTaint text g1 g2 l ++ (bx t 44 ++ rowTaint l)))
    (kp : ∀ n h', n ≠ 0 → (match goP one (splitC 44 text) [] with | .error m => m = n | .ok l => chk l = n) → K (.pan (stopV n)) h') :
    VH Tryz.prog 155 [.ptr 0 0 0 0, .ptr 3 0 0 0, .ptr 1 0 0 0, .ptr 2 0 0 0] (prTaint text g1 g2 []) K := by
  refine VH_of p155 (by simp) ?_
  unfold c155
  simp -implicitDefEqProofs [-Aw_rng, prTaint, cellTaint]
  refine callH_of (h120 text 44 _ (by simp [okH, noYH, AV.refs, refsL])) ?_ (fun v h' ⟨e, _⟩ => by cases e)
  rintro v h' ⟨e, rfl⟩
  cases e
  simp -implicitDefEqProofs [-Aw_rng]
  refine aw_split 44 4 (fun L pre post => ∃ l, (goP one L l = goP one (splitC 44 text) [] ∧ l.length + L.length = (splitC 44 text).length) ∧ pre = prTaint text g1 g2 l ∧ post = rowTaint l) text (prTaint text g1 g2 []) (rowTaint []) (by omega) ⟨[], ⟨rfl, by simp⟩, rfl, rfl⟩ ?_ (by simp) ?_ ?_
  · rintro L pre post ⟨l, _, rfl, rfl⟩
    exact okTaint text g1 g2 l
  · rintro t p r pre post R m hp ⟨l, ⟨hl, hk⟩, rfl, rfl⟩ hR hP hm
    rw [List.length_cons] at hk
    have ho := (okTaint text g1 g2 l).2 t
    have hpan : ∀ n, n ≠ 0 → goP one (p :: r) l = .error n → R (.pan (stopV n)) (prTaint text g1 g2 l ++ (bx t 44 ++ rowTaint l)) := by
      intro n hn he
      refine hP _ n (Nat.le_refl _) ho ?_
      simp -implicitDefEqProofs [retQ]
      refine endQ_keep (by simp [prTaint]) ho.2 (by simp [stopV, AV.refs, refsL]) (kp n _ hn ?_)
      rw [← hl, he]
    simp -implicitDefEqProofs [-Aw_rng]
    refine ⟨by simp at hm; omega, fun hz => callB_pan (stopP (by decide)) (hpan 2 (by decide) (by rw [goP, if_pos hz])), fun hz => ?_⟩
    rw [goP, if_neg hz] at hpan hl
    have h1p := h1 p (by omega)
    rcases l with _ | ⟨a0, l0⟩
    · simp -implicitDefEqProofs [prTaint, cellTaint]
      refine ⟨ok1, ?_⟩
      cases ho : one p with
      | error n =>
        rw [ho] at h1p hpan
        refine callB_pan h1p ?_
        have := hpan n (h1n p n ho) rfl
        simpa [prTaint, cellTaint] using this
      | ok a =>
        rw [ho] at h1p hl
        refine callB_ret h1p ?_
        simp -implicitDefEqProofs [prTaint, cellTaint]
        have := hR (prTaint text g1 g2 [a]) (rowTaint [a]) (by simp [rowTaint]) ⟨[a], ⟨hl, by simpa [Nat.add_comm] using hk⟩, rfl, rfl⟩
        simpa [prTaint, cellTaint, rowTaint, bx] using this
    · simp -implicitDefEqProofs [prTaint, cellTaint, rowTaint, bx]
      refine ⟨ok1, ?_⟩
      cases ho : one p with
      | error n =>
        rw [ho] at h1p hpan
        refine callB_pan h1p ?_
        have := hpan n (h1n p n ho) rfl
        simpa [prTaint, cellTaint, rowTaint, bx] using this
      | ok a =>
        rw [ho] at h1p hl
        refine callB_ret h1p ?_
        simp -implicitDefEqProofs [prTaint, cellTaint, rowTaint, bx]
        have := hR (prTaint text g1 g2 (a0 :: l0 ++ [a])) (rowTaint (a0 :: l0 ++ [a])) (by simp [rowTaint]) ⟨a0 :: l0 ++ [a], ⟨hl, by simp at hk ⊢; omega⟩, rfl, rfl⟩
        refine ⟨by rw [splitC_len] at hk; have := List.count_le_length (a := 44) (l := text); simp at hk; omega, ?_⟩
        simpa [prTaint, cellTaint, rowTaint, bx] using this
  · rintro t pre post ⟨l, ⟨hl, hk⟩, rfl, rfl⟩
    have hl : goP one (splitC 44 text) [] = .ok l := hl.symm
    have ho := (okTaint text g1 g2 l).2 t
    have h2l := h2 l hl
    have hr0 := kr l t hl
    have hp0 : chk l ≠ 0 → K (.pan (stopV (chk l))) (prTaint text g1 g2 l ++ (bx t 44 ++ rowTaint l)) := fun h => kp _ _ h (by rw [hl])
    simp -implicitDefEqProofs [-Aw_rng]
    rcases l with _ | ⟨a0, l0⟩
    · rw [splitC_len] at hk; simp at hk
    · simp -implicitDefEqProofs [prTaint, cellTaint, rowTaint, bx]
      refine ⟨ok2, callF_of h2l (by simp [List.take_of_length_le]) (by simp) rfl ?_⟩
      simp -implicitDefEqProofs
      by_cases hc : chk (a0 :: l0) = 0
      · rw [hc]
        refine callB_ret stopR ?_
        simp -implicitDefEqProofs [retQ, resK]
        have := endQ_keep (K := K) (mk := .ret) (v := .tup []) (base := 4) (by simp [prTaint]) ho.2 (by simp [AV.refs, refsL]) (hr0 hc)
        simpa [prTaint, cellTaint, rowTaint, bx, tupV] using this
      · refine callB_pan (stopP hc) ?_
        simp -implicitDefEqProofs [retQ]
        have := endQ_keep (K := K) (mk := .pan) (v := stopV (chk (a0 :: l0))) (base := 4) (by simp [prTaint]) ho.2 (by simp [stopV, AV.refs, refsL]) (hp0 hc)
        simpa [prTaint, cellTaint, rowTaint, bx] using this
theorem v126 (text : Str) (g1 g2 : FuncId) (one : Str → Except Int Taint) (chk : List Taint → Int) (hs : text.length < 2 ^ 31)
    (ok1 : callOK Tryz.prog g1 = true) (ok2 : callOK Tryz.prog g2 = true)
    (h1 : ∀ p : Str, p.length < 2 ^ 31 → V Tryz.prog g1 [.str p] (match one p with | .ok a => .ret a.av | .error n => .pan (stopV n)))
    (h1n : ∀ p n, one p = .error n → n ≠ 0)
    (h2 : ∀ l, goP one (splitC 44 text) [] = .ok l → V Tryz.prog g2 [.sl 3 (l.map Taint.av)] (.ret (.int .i64 (chk l)))) :
    V Tryz.prog 126 [.str text, .fn g1 [], .fn g2 []] (.ret (.tup [.sl 3 ((partsS one chk text).1.map Taint.av), .int .i64 (partsS one chk text).2])) := by
  suffices h : V Tryz.prog 126 [.str text, .fn g1 [], .fn g2 []] (.ret (.tup [match (partsS one chk text).1 with | [] => .nils | l => .sl 3 (l.map Taint.av), .int .i64 (partsS one chk text).2])) by
    cases hl : (partsS one chk text).1 with
    | nil => rw [hl] at h; exact h.weak (.tupL (.cons (.nils 3) (.cons (.refl _) .nil)))
    | cons a l => rw [hl] at h; exact h
  refine V_of p126 (by simp) (by simp) (by cases (partsS one chk text).1 <;> simp [Out.pure]) ?_
  unfold c126
  simp -implicitDefEqProofs
  refine ⟨fun e => by simp [partsS, e], fun e => ?_⟩
  have hc : VH Tryz.prog 71 [.fn 155 [.ptr 0 0 0 0, .ptr 3 0 0 0, .ptr 1 0 0 0, .ptr 2 0 0 0]] (prTaint text g1 g2 []) _ :=
    tryS (fun n h' => (n ≠ 0 ∧ partsS one chk text = ([], n)) ∨ (n = 0 ∧ ∃ l t, l ≠ [] ∧ partsS one chk text = (l, 0) ∧ h' = prTaint text g1 g2 l ++ (bx t 44 ++ rowTaint l))) (by kernel_rfl) (h155 text g1 g2 one chk hs ok1 ok2 h1 h1n h2 ?_ ?_)
  · refine callH_of hc ?_ ?_
    · rintro v h' ⟨n, e1, ⟨hn, hv⟩ | ⟨rfl, l, t, hl, hv, rfl⟩⟩
      · cases e1
        simp -implicitDefEqProofs
        exact ⟨fun _ => by rw [hv]; exact ⟨rfl, rfl⟩, fun h => absurd h hn⟩
      · cases e1
        cases l with
        | nil => exact absurd rfl hl
        | cons a l =>
          simp -implicitDefEqProofs [prTaint, cellTaint, rowTaint, bx]
          rw [hv, List.take_of_length_le (by simp)]; exact ⟨rfl, rfl⟩
    · rintro v h' ⟨n, e1, _⟩; cases e1
  · intro l t h3 h4
    refine .inr ⟨rfl, l, t, ?_, by simp [partsS, e, h3, h4], rfl⟩
    rintro rfl
    have := goP_len one _ _ _ h3
    rw [splitC_len] at this; simp at this
  · intro n h' hn h3
    refine ⟨n, rfl, .inl ⟨hn, ?_⟩⟩
    unfold partsS
    rw [if_neg e]
    split at h3
    · rename_i hg; rw [hg, h3]
    · rename_i hg; rw [hg]; simp [h3, hn]
end Go.Proofs.YtmgoencdjkaobaaGreatDoor
