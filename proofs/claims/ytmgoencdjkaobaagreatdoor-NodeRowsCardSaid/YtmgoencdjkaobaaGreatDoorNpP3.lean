/- Contracts: amounts, as they are read. The conditions stand in each. -/
import Derived.Test.YtmgoencdjkaobaaGreatDoorNpP2
set_option linter.unusedVariables false
set_option linter.unusedSimpArgs false
namespace Go.Proofs.YtmgoencdjkaobaaGreatDoor
open Go Go.Pe
attribute [local irreducible] Aw
def cellA (k : Nat) : List Amt → AV
  | [] => .nils
  | l => .osl k (l.length - 1) 0 l.length
def rowA (l : List Amt) : List AObj := match l with
  | [] => []
  | l => [⟨l.length - 1, 2, 51, true, l.map Amt.av⟩]
def prA (text : Str) (late : Int) (l : List Amt) : List AObj := [⟨0, 1, 9, false, [.str text]⟩, ⟨0, 1, 26, false, [cellA 6 l]⟩, ⟨0, 1, 35, false, [.int .i64 late]⟩]
theorem okA (text : Str) (late : Int) (l : List Amt) : (prA text late l).length = 3 ∧ ∀ t, okH (prA text late l ++ (bx t 44 ++ rowA l)) := by
  refine ⟨rfl, fun t => ?_⟩
  cases l with
  | nil => simp [prA, cellA, rowA, okH, noYH, bx, AV.refs, refsL]
  | cons a l => simp [prA, cellA, rowA, okH, noYH, bx, AV.refs, refsL]
theorem mxI (a b : Int) : (if a < b then b else a) = max a b := by omega
theorem h119 (text : Str) (hs : text.length < 2 ^ 31)
    {K : Out → List AObj → Prop} (kr : ∀ l t, goA (splitC 44 text) 0 [] = .ok (0, l) → checkVec l = 0 → K (.ret (.tup [])) (prA text 0 l ++ (bx t 44 ++ rowA l)))
    (kp : ∀ n h', n ≠ 0 → (match goA (splitC 44 text) 0 [] with | .error m => m = n | .ok (q, l) => if q = 0 then checkVec l = n else q = n) → K (.pan (stopV n)) h') :
    VH Tryz.prog 119 [.ptr 0 0 0 0, .ptr 1 0 0 0] [⟨0, 1, 9, false, [.str text]⟩, ⟨0, 1, 26, false, [.nils]⟩] K := by
  have hcnt := splitC_len 44 text
  have hcl := List.count_le_length (a := 44) (l := text)
  have hmem : ∀ p ∈ splitC 44 text, ∀ n, Amt.fine ⟨(cutC 61 p).1, n⟩ := fun p hp n => by
    have := splitC_mem 44 text p hp
    have := (cutC_len 61 p).1
    show (cutC 61 p).1.length < _; omega
  refine VH_of p119 (by simp) ?_
  unfold c119
  simp -implicitDefEqProofs [-Aw_rng]
  refine callH_of (h120 text 44 _ (by simp [okH, noYH, AV.refs, refsL])) ?_ (fun v h' ⟨e, _⟩ => by cases e)
  rintro v h' ⟨e, rfl⟩
  cases e
  simp -implicitDefEqProofs [-Aw_rng]
  refine aw_split 44 3 (fun L pre post => ∃ late l, (goA L late l = goA (splitC 44 text) 0 [] ∧ l.length + L.length = (splitC 44 text).length) ∧ pre = prA text late l ∧ post = rowA l) text (prA text 0 []) (rowA []) (by omega) ⟨0, [], ⟨rfl, by simp⟩, rfl, rfl⟩ ?_ (by simp) ?_ ?_
  · rintro L pre post ⟨late, l, _, rfl, rfl⟩
    exact okA text late l
  · rintro t p r pre post R m hp ⟨late, l, ⟨hl, hk⟩, rfl, rfl⟩ hR hP hm
    rw [List.length_cons] at hk
    have ho := (okA text late l).2 t
    have hpan : ∀ n, n ≠ 0 → goA (p :: r) late l = .error n → R (.pan (stopV n)) (prA text late l ++ (bx t 44 ++ rowA l)) := by
      intro n hn he
      refine hP _ n (Nat.le_refl _) ho ?_
      simp -implicitDefEqProofs [retQ]
      refine endQ_keep (by simp [prA]) ho.2 (by simp [stopV, AV.refs, refsL]) (kp n _ hn ?_)
      rw [← hl, he]
    have hc := cutC_len 61 p
    rw [goA] at hpan hl
    simp -implicitDefEqProofs [-Aw_rng]
    refine ⟨by simp at hm; omega, callA_of (v_cut p 61 (by omega)) ?_⟩
    simp -implicitDefEqProofs
    refine callA_of (v121 _ (by omega)) ?_
    simp -implicitDefEqProofs
    generalize numS (cutC 61 p).2.1 = nn at *
    refine ⟨fun f1 => ⟨fun f2 => callB_pan (stopP (by decide)) (hpan 2 (by decide) (by rw [if_pos (.inr f2)])), fun f2 => ?_⟩, fun f1 => callB_pan (stopP (by decide)) (hpan 2 (by decide) (by rw [if_pos (.inl f1)]))⟩
    clear hpan
    rw [if_neg (by simp [f1, f2])] at hl
    rcases l with _ | ⟨a0, l0⟩
    · simp -implicitDefEqProofs [prA, cellA]
      have := hR (prA text (max late nn.2) [⟨(cutC 61 p).1, nn.1⟩]) (rowA [⟨(cutC 61 p).1, nn.1⟩]) (by simp [rowA]) ⟨_, [⟨(cutC 61 p).1, nn.1⟩], ⟨hl, by simpa [Nat.add_comm] using hk⟩, rfl, rfl⟩
      simpa [prA, cellA, rowA, bx, mxI] using this
    · simp -implicitDefEqProofs [prA, cellA, rowA, bx]
      have := hR (prA text (max late nn.2) (a0 :: l0 ++ [⟨(cutC 61 p).1, nn.1⟩])) (rowA (a0 :: l0 ++ [⟨(cutC 61 p).1, nn.1⟩])) (by simp [rowA]) ⟨_, a0 :: l0 ++ [⟨(cutC 61 p).1, nn.1⟩], ⟨hl, by simp at hk ⊢; omega⟩, rfl, rfl⟩
      refine ⟨by rw [splitC_len] at hk; simp at hk; omega, ?_⟩
      simpa [prA, cellA, rowA, bx, mxI] using this
  · rintro t pre post ⟨late, l, ⟨hl, hk⟩, rfl, rfl⟩
    have hl : goA (splitC 44 text) 0 [] = .ok (late, l) := hl.symm
    have ho := (okA text late l).2 t
    have hfin := goA_spec (B := Amt.fine) _ _ _ _ _ hmem (by simp) hl
    have hr0 := fun e1 : late = 0 => kr l t (by rw [hl, e1])
    have hp1 : late ≠ 0 → K (.pan (stopV late)) (prA text late l ++ (bx t 44 ++ rowA l)) := fun h => kp _ _ h (by rw [hl]; simp [h])
    have hp0 : late = 0 → checkVec l ≠ 0 → K (.pan (stopV (checkVec l))) (prA text late l ++ (bx t 44 ++ rowA l)) := fun h0 h => kp _ _ h (by rw [hl]; simp [h0])
    simp -implicitDefEqProofs [-Aw_rng]
    rcases l with _ | ⟨a0, l0⟩
    · rw [splitC_len] at hk; simp at hk
    · have v0 : (2 : Nat) ≤ (prA text late (a0 :: l0) ++ (bx t 44 ++ rowA (a0 :: l0))).length := by simp [prA]
      simp -implicitDefEqProofs [prA, cellA, rowA, bx]
      by_cases h0 : late = 0
      · rw [h0]
        refine callB_ret stopR ?_
        simp -implicitDefEqProofs
        refine callF_of (v85 (a0 :: l0) (by rw [hfin.2, hcnt]; simp; omega) hfin.1) (by simp [List.take_of_length_le]) (by simp) rfl ?_
        simp -implicitDefEqProofs
        by_cases hc : checkVec (a0 :: l0) = 0
        · rw [hc]
          refine callB_ret stopR ?_
          simp -implicitDefEqProofs [retQ, resK]
          have := endQ_keep (K := K) (mk := .ret) (v := .tup []) v0 ho.2 (by simp [AV.refs, refsL]) (by have := hr0 h0 hc; rwa [h0])
          rw [h0] at this
          simpa [prA, cellA, rowA, bx, tupV] using this
        · refine callB_pan (stopP hc) ?_
          simp -implicitDefEqProofs [retQ]
          have := endQ_keep (K := K) (mk := .pan) (v := stopV (checkVec (a0 :: l0))) v0 ho.2 (by simp [stopV, AV.refs, refsL]) (hp0 h0 hc)
          rw [h0] at this
          simpa [prA, cellA, rowA, bx] using this
      · refine callB_pan (stopP h0) ?_
        simp -implicitDefEqProofs [retQ]
        have := endQ_keep (K := K) (mk := .pan) (v := stopV late) v0 ho.2 (by simp [stopV, AV.refs, refsL]) (hp1 h0)
        simpa [prA, cellA, rowA, bx] using this
theorem v76 (text : Str) (hs : text.length < 2 ^ 31) : V Tryz.prog 76 [.str text] (.ret (.tup [.sl 2 ((parseVec text).1.map Amt.av), .int .i64 (parseVec text).2])) := by
  suffices h : V Tryz.prog 76 [.str text] (.ret (.tup [match (parseVec text).1 with | [] => .nils | l => .sl 2 (l.map Amt.av), .int .i64 (parseVec text).2])) by
    cases hl : (parseVec text).1 with
    | nil => rw [hl] at h; exact h.weak (.tupL (.cons (.nils 2) (.cons (.refl _) .nil)))
    | cons a l => rw [hl] at h; exact h
  refine V_of p76 (by simp) (by simp) (by cases (parseVec text).1 <;> simp [Out.pure]) ?_
  unfold c76
  simp -implicitDefEqProofs
  refine ⟨fun e => by simp [parseVec, e], fun e => ?_⟩
  have hc : VH Tryz.prog 71 [.fn 119 [.ptr 0 0 0 0, .ptr 1 0 0 0]] [⟨0, 1, 9, false, [.str text]⟩, ⟨0, 1, 26, false, [.nils]⟩] _ :=
    tryS (fun n h' => (n ≠ 0 ∧ parseVec text = ([], n)) ∨ (n = 0 ∧ ∃ l t, l ≠ [] ∧ parseVec text = (l, 0) ∧ h' = prA text 0 l ++ (bx t 44 ++ rowA l))) (by kernel_rfl) (h119 text hs ?_ ?_)
  · refine callH_of hc ?_ ?_
    · rintro v h' ⟨n, e1, ⟨hn, hv⟩ | ⟨rfl, l, t, hl, hv, rfl⟩⟩
      · cases e1
        simp -implicitDefEqProofs
        exact ⟨fun _ => by rw [hv]; exact ⟨rfl, rfl⟩, fun h => absurd h hn⟩
      · cases e1
        cases l with
        | nil => exact absurd rfl hl
        | cons a l =>
          simp -implicitDefEqProofs [prA, cellA, rowA, bx]
          rw [hv, List.take_of_length_le (by simp)]; exact ⟨rfl, rfl⟩
    · rintro v h' ⟨n, e1, _⟩; cases e1
  · intro l t h3 h4
    refine .inr ⟨rfl, l, t, ?_, by simp [parseVec, e, h3, h4], rfl⟩
    rintro rfl
    have := (goA_spec (B := fun _ => True) _ _ _ _ _ (by simp) (by simp) h3).2
    rw [splitC_len] at this; simp at this
  · intro n h' hn h3
    refine ⟨n, rfl, .inl ⟨hn, ?_⟩⟩
    unfold parseVec
    rw [if_neg e]
    split at h3
    · rename_i hg; rw [hg, h3]
    · rename_i q l hg
      rw [hg]
      by_cases hq : q = 0
      · simp [hq] at h3; simp [hq, h3, hn]
      · simp [hq] at h3; simp [hq, h3, hn]
end Go.Proofs.YtmgoencdjkaobaaGreatDoor
