/- Contracts: sets of pairs and taints, as they are read. The conditions stand in each. -/
import Derived.Test.YtmgoencdjkaobaaGreatDoorNpP1
set_option linter.unusedVariables false
set_option linter.unusedSimpArgs false
namespace Go.Proofs.YtmgoencdjkaobaaGreatDoor
open Go Go.Pe
attribute [local irreducible] Aw
theorem v123 (p : Str) (hp : p.length < 2 ^ 31) : V Tryz.prog 123 [.str p] (match pairS p with | .ok a => .ret a.av | .error n => .pan (stopV n)) := by
  refine V_of p123 (by simp) (by simp) (by cases pairS p <;> simp [Out.pure, stopV]) ?_
  unfold c123
  generalize hr : pairS p = r
  unfold pairS at hr
  simp -implicitDefEqProofs
  refine callA_of (v_cut p 58 (by omega)) ?_
  simp -implicitDefEqProofs
  refine ⟨fun h1 => callA_of (v_contains _ 58) ?_, fun h1 => callB_pan (stopP (by decide)) ?_⟩
  · simp -implicitDefEqProofs
    refine ⟨fun h2 => callB_pan (stopP (by decide)) ?_, fun h2 => ?_⟩
    · rw [if_pos (.inr h2)] at hr; subst hr; simp [stopV]
    · rw [if_neg (by simp [h1]; omega)] at hr; subst hr; simp
  · rw [if_pos (.inl h1)] at hr; subst hr; simp [stopV]
theorem v125 (l : List Pair) (hl : l.length < 2 ^ 40) (hf : ∀ a ∈ l, a.fine) : V Tryz.prog 125 [.sl 2 (l.map Pair.av)] (.ret (.int .i64 (checkSet l))) := by
  refine V_of p125 (by simp) (by simp) rfl ?_
  unfold c125
  simp -implicitDefEqProofs
  refine callA_of (v86 l hl hf) ?_
  simp -implicitDefEqProofs
theorem v127 (p : Str) (hp : p.length < 2 ^ 31) : V Tryz.prog 127 [.str p] (match taintS p with | .ok a => .ret a.av | .error n => .pan (stopV n)) := by
  refine V_of p127 (by simp) (by simp) (by cases taintS p <;> simp [Out.pure, stopV]) ?_
  unfold c127
  generalize hr : taintS p = r
  unfold taintS at hr
  simp -implicitDefEqProofs
  refine callA_of (v_cut p 58 (by omega)) ?_
  simp -implicitDefEqProofs
  refine ⟨fun h1 => callA_of (v_contains _ 58) ?_, fun h1 => callB_pan (stopP (by decide)) ?_⟩
  · simp -implicitDefEqProofs
    refine ⟨fun h2 => callB_pan (stopP (by decide)) ?_, fun h2 => callA_of (v_cutSuffix _ [33] (by have := (cutC_len 58 p).2; omega)) ?_⟩
    · rw [if_pos (.inr h2)] at hr; subst hr; simp [stopV]
    · rw [if_neg (by simp [h1]; omega)] at hr; subst hr; simp -implicitDefEqProofs
  · rw [if_pos (.inl h1)] at hr; subst hr; simp [stopV]
theorem v78 (text : Str) (hs : text.length < 2 ^ 31) : V Tryz.prog 78 [.str text] (.ret (.tup [.sl 2 ((parsePairs text).1.map Pair.av), .int .i64 (parsePairs text).2])) := by
  have hm : ∀ p ∈ splitC 44 text, ∀ a, pairS p = .ok a → a.fine := fun p hp a e => pairS_fine (by have := splitC_mem 44 text p hp; omega) e
  refine V_of p78 (by simp) (by simp) (by simp [Out.pure]) ?_
  unfold c78
  simp -implicitDefEqProofs
  refine callA_of (v122 text 123 125 pairS checkSet hs (by kernel_rfl) (by kernel_rfl) v123 ?_ ?_) ?_
  · intro p n e
    unfold pairS at e
    split at e <;> cases e
    decide
  · intro l e
    have := goP_len _ _ _ _ e
    rw [splitC_len] at this
    have h2 := List.count_le_length (a := 44) (l := text)
    exact v125 l (by simp at this; omega) (goP_all _ _ _ l hm (by simp) e)
  simp -implicitDefEqProofs [parsePairs]
theorem v80 (text : Str) (hs : text.length < 2 ^ 31) : V Tryz.prog 80 [.str text] (.ret (.tup [.sl 3 ((parseTaints text).1.map Taint.av), .int .i64 (parseTaints text).2])) := by
  have hm : ∀ p ∈ splitC 44 text, ∀ a, taintS p = .ok a → a.fine := fun p hp a e => taintS_fine (by have := splitC_mem 44 text p hp; omega) e
  refine V_of p80 (by simp) (by simp) (by simp [Out.pure]) ?_
  unfold c80
  simp -implicitDefEqProofs
  refine callA_of (v126 text 127 87 taintS checkTaints hs (by kernel_rfl) (by kernel_rfl) v127 ?_ ?_) ?_
  · intro p n e
    unfold taintS at e
    split at e <;> cases e
    decide
  · intro l e
    have := goP_len _ _ _ _ e
    rw [splitC_len] at this
    have h2 := List.count_le_length (a := 44) (l := text)
    exact v87 l (by simp at this; omega) (goP_all _ _ _ l hm (by simp) e)
  simp -implicitDefEqProofs [parseTaints]
end Go.Proofs.YtmgoencdjkaobaaGreatDoor
