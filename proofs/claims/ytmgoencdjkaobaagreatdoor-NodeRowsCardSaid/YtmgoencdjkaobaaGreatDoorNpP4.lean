/- Contracts: a node, as it is read. The conditions stand in each. -/
import Derived.Test.YtmgoencdjkaobaaGreatDoorNpP3
set_option linter.unusedVariables false
set_option linter.unusedSimpArgs false
namespace Go.Proofs.YtmgoencdjkaobaaGreatDoor
open Go Go.Pe
attribute [local irreducible] Aw
def zN : AV := .agg [.str [], .nils, .nils, .nils, .bool false]
theorem h72 (text : Str) (hs : text.length < 2 ^ 31) (o1 : AObj) (ho1 : okH [o1]) 
    {K : Out → List AObj → Prop} (kr : ∀ n, parseNode text = (n, 0) → K (.ret (.tup [])) [⟨0, 1, 9, false, [.str text]⟩, o1, ⟨0, 5, 31, false, [n.av]⟩])
    (kp : ∀ n x, n ≠ 0 → parseNode text = (.zero, n) → K (.pan (stopV n)) [⟨0, 1, 9, false, [.str text]⟩, o1, ⟨0, 5, 31, false, [x]⟩]) :
    VH Tryz.prog 72 [.ptr 0 0 0 0, .ptr 2 0 0 0] [⟨0, 1, 9, false, [.str text]⟩, o1, ⟨0, 5, 31, false, [zN]⟩] K := by
  refine VH_of p72 (by simp) ?_
  unfold c72
  simp -implicitDefEqProofs
  refine callA_of (v_split text 32 (by omega)) ?_
  have hm := splitC_mem 32 text
  have hpan : ∀ n (x : AV), x.refs = 0 → n ≠ 0 → parseNode text = (.zero, n) → retQ [] 3 K (.pan (stopV n)) ⟨0, 0, [], [⟨0, 1, 9, false, [.str text]⟩, o1, ⟨0, 5, 31, false, [x]⟩]⟩ := by
    intro n x hx hn e
    simp only [retQ]
    refine endQ_keep (by simp) ?_ (by simp [stopV, AV.refs, refsL]) (kp n x hn e)
    have := ho1.2 o1 (by simp)
    simp at this
    simp [AV.refs, refsL, hx]
    rcases this with h | h
    · exact .inl h
    · exact .inr (by omega)
  unfold parseNode at kr kp hpan
  generalize splitC 32 text = L at *
  simp -implicitDefEqProofs
  rcases L with _ | ⟨a, _ | ⟨b, _ | ⟨c, _ | ⟨d, _ | ⟨e, _ | ⟨f, L⟩⟩⟩⟩⟩⟩
  case cons.cons.cons.cons.cons.nil =>
    dsimp only at kr kp hpan
    have hb := hm b (by simp)
    have hc := hm c (by simp)
    have hd := hm d (by simp)
    have hv := parseVec_all b (by omega)
    have hpr := pairs_all c (by omega)
    have htn := taints_all d (by omega)
    have hfine : Nd.fine ⟨a, (parseVec b).1, (parsePairs c).1, (parseTaints d).1, decide (e = cordonS)⟩ := ⟨⟨hv.2, hpr.2, htn.2⟩, by have := hm a (by simp); show a.length < _; omega, hv.1, hpr.1, htn.1⟩
    have tB := v75 (.sl 2 ((parseVec b).1.map Amt.av)) (parseVec b).2 (by simp)
    have tP := v77 (.sl 2 ((parsePairs c).1.map Pair.av)) (parsePairs c).2 (by simp)
    have tT := v79 (.sl 3 ((parseTaints d).1.map Taint.av)) (parseTaints d).2 (by simp)
    by_cases e1 : e = upS
    · subst e1
      have kr := fun h1 h2 h3 h4 => kr _ (by rw [if_neg (by simp [upS, cordonS]), if_neg (fun q => q h1), if_neg (fun q => q h2), if_neg (fun q => q h3), if_neg (fun q => q h4)])
      rw [if_neg (by simp [upS, cordonS])] at hpan
      rw [show decide (upS = cordonS) = false by decide] at *
      simp -implicitDefEqProofs [upS, cordonS]
      refine callA_of (v76 b (by omega)) ?_
      simp -implicitDefEqProofs
      by_cases h1 : (parseVec b).2 = 0
      case neg =>
        rw [if_neg h1] at tB
        exact callB_pan tB (hpan _ zN rfl h1 (by rw [if_pos h1]))
      rw [if_pos h1] at tB; rw [if_neg (fun q => q h1)] at hpan
      refine callB_ret tB ?_
      simp -implicitDefEqProofs
      refine callA_of (v78 c (by omega)) ?_
      simp -implicitDefEqProofs
      by_cases h2 : (parsePairs c).2 = 0
      case neg =>
        rw [if_neg h2] at tP
        exact callB_pan tP (hpan _ zN rfl h2 (by rw [if_pos h2]))
      rw [if_pos h2] at tP; rw [if_neg (fun q => q h2)] at hpan
      refine callB_ret tP ?_
      simp -implicitDefEqProofs
      refine callA_of (v80 d (by omega)) ?_
      simp -implicitDefEqProofs
      by_cases h3 : (parseTaints d).2 = 0
      case neg =>
        rw [if_neg h3] at tT
        exact callB_pan tT (hpan _ zN rfl h3 (by rw [if_pos h3]))
      rw [if_pos h3] at tT; rw [if_neg (fun q => q h3)] at hpan
      refine callB_ret tT ?_
      simp -implicitDefEqProofs [zN]
      refine callA_of (v31 _ hfine) ?_
      simp -implicitDefEqProofs
      generalize hk : checkNode _ = k at *
      by_cases h4 : k = 0
      case neg =>
        refine callB_pan (stopP h4) ?_
        exact hpan k _ rfl h4 (by rw [if_pos h4])
      subst h4
      refine callB_ret stopR ?_
      simp -implicitDefEqProofs [retQ, resK]
      refine endQ_keep (by simp) ?_ (by simp [tupV, AV.refs, refsL]) (kr h1 h2 h3 (by first | rfl | assumption))
      have := ho1.2 o1 (by simp)
      simp at this
      simp [AV.refs, refsL]
      rcases this with h | h
      · exact .inl h
      · exact .inr (by omega)
    by_cases e2 : e = cordonS
    · subst e2
      have kr := fun h1 h2 h3 h4 => kr _ (by rw [if_neg (by simp [upS, cordonS]), if_neg (fun q => q h1), if_neg (fun q => q h2), if_neg (fun q => q h3), if_neg (fun q => q h4)])
      rw [if_neg (by simp [upS, cordonS])] at hpan
      rw [show decide (cordonS = cordonS) = true by decide] at *
      simp -implicitDefEqProofs [upS, cordonS]
      refine callA_of (v76 b (by omega)) ?_
      simp -implicitDefEqProofs
      by_cases h1 : (parseVec b).2 = 0
      case neg =>
        rw [if_neg h1] at tB
        exact callB_pan tB (hpan _ zN rfl h1 (by rw [if_pos h1]))
      rw [if_pos h1] at tB; rw [if_neg (fun q => q h1)] at hpan
      refine callB_ret tB ?_
      simp -implicitDefEqProofs
      refine callA_of (v78 c (by omega)) ?_
      simp -implicitDefEqProofs
      by_cases h2 : (parsePairs c).2 = 0
      case neg =>
        rw [if_neg h2] at tP
        exact callB_pan tP (hpan _ zN rfl h2 (by rw [if_pos h2]))
      rw [if_pos h2] at tP; rw [if_neg (fun q => q h2)] at hpan
      refine callB_ret tP ?_
      simp -implicitDefEqProofs
      refine callA_of (v80 d (by omega)) ?_
      simp -implicitDefEqProofs
      by_cases h3 : (parseTaints d).2 = 0
      case neg =>
        rw [if_neg h3] at tT
        exact callB_pan tT (hpan _ zN rfl h3 (by rw [if_pos h3]))
      rw [if_pos h3] at tT; rw [if_neg (fun q => q h3)] at hpan
      refine callB_ret tT ?_
      simp -implicitDefEqProofs [zN]
      refine callA_of (v31 _ hfine) ?_
      simp -implicitDefEqProofs
      generalize hk : checkNode _ = k at *
      by_cases h4 : k = 0
      case neg =>
        refine callB_pan (stopP h4) ?_
        exact hpan k _ rfl h4 (by rw [if_pos h4])
      subst h4
      refine callB_ret stopR ?_
      simp -implicitDefEqProofs [retQ, resK]
      refine endQ_keep (by simp) ?_ (by simp [tupV, AV.refs, refsL]) (kr h1 h2 h3 (by first | rfl | assumption))
      have := ho1.2 o1 (by simp)
      simp at this
      simp [AV.refs, refsL]
      rcases this with h | h
      · exact .inl h
      · exact .inr (by omega)
    · have e3 := e1
      have e4 := e2
      rw [upS] at e3
      rw [cordonS] at e4
      simp -implicitDefEqProofs [e3, e4]
      exact callB_pan (stopP (by decide)) (hpan 2 zN rfl (by decide) (if_pos ⟨e1, e2⟩))
  case cons.cons.cons.cons.cons.cons =>
    simp -implicitDefEqProofs
    exact ⟨fun h => by omega, fun _ => callB_pan (stopP (by decide)) (hpan 2 zN rfl (by decide) rfl)⟩
  all_goals (simp -implicitDefEqProofs; exact callB_pan (stopP (by decide)) (hpan 2 zN rfl (by decide) rfl))
theorem v28 (text : Str) (hs : text.length < 2 ^ 31) : V Tryz.prog 28 [.str text] (.ret (.tup [(parseNode text).1.av, .int .i64 (parseNode text).2])) := by
  suffices h : V Tryz.prog 28 [.str text] (.ret (.tup [if (parseNode text).2 = 0 then (parseNode text).1.av else zN, .int .i64 (parseNode text).2])) by
    by_cases e : (parseNode text).2 = 0
    · rw [if_pos e] at h; exact h
    · rw [if_neg e] at h
      have hz : (parseNode text).1 = Nd.zero := parseNode_zero e
      rw [hz]
      exact h.weak (.tupL (.cons (.aggL (.cons (.refl _) (.cons (.nils 2) (.cons (.nils 2) (.cons (.nils 3) (.cons (.refl _) .nil)))))) (.cons (.refl _) .nil)))
  refine V_of p28 (by simp) (by simp) (by split <;> simp [Out.pure, zN]) ?_
  unfold c28
  simp -implicitDefEqProofs
  have hc : VH Tryz.prog 71 [.fn 72 [.ptr 0 0 0 0, .ptr 2 0 0 0]] [⟨0, 1, 9, false, [.str text]⟩, ⟨0, 5, 31, false, [zN]⟩, ⟨0, 5, 31, false, [zN]⟩] _ :=
    tryS (fun n h' => (n ≠ 0 ∧ parseNode text = (.zero, n) ∧ ∃ x1 x3, h' = [x1, ⟨0, 5, 31, false, [zN]⟩, x3]) ∨ (n = 0 ∧ ∃ nd, parseNode text = (nd, 0) ∧ h' = [⟨0, 1, 9, false, [.str text]⟩, ⟨0, 5, 31, false, [zN]⟩, ⟨0, 5, 31, false, [nd.av]⟩])) (by kernel_rfl) (h72 text hs _ (by simp [okH, noYH, zN, AV.refs, refsL]) ?_ ?_)
  · refine callH_of hc ?_ ?_
    · rintro v h' ⟨n, e1, ⟨hn, hv, x1, x3, rfl⟩ | ⟨rfl, nd, hv, rfl⟩⟩
      · cases e1
        simp -implicitDefEqProofs
        refine ⟨fun _ => by rw [hv]; exact ⟨(if_neg hn).symm, rfl⟩, fun h => absurd h hn⟩
      · cases e1
        simp -implicitDefEqProofs [zN]
        rw [hv]; simp
    · rintro v h' ⟨n, e1, _⟩; cases e1
  · intro nd h3
    exact .inr ⟨rfl, nd, h3, rfl⟩
  · intro n x hn h3
    exact ⟨n, rfl, .inl ⟨hn, h3, _, _, rfl⟩⟩
end Go.Proofs.YtmgoencdjkaobaaGreatDoor
