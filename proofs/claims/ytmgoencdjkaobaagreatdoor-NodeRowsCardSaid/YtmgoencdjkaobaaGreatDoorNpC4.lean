/- Contracts: breaking off, taking, counts. The conditions stand in each. -/
import Derived.Test.YtmgoencdjkaobaaGreatDoorNpC3
import Derived.Test.YtmgoencdjkaobaaGreatDoorNpV2
import Derived.Test.YtmgoencdjkaobaaGreatDoorPeQ
set_option linter.unusedVariables false
set_option linter.unusedSimpArgs false
namespace Go.Proofs.YtmgoencdjkaobaaGreatDoor
open Go Go.Pe
attribute [local irreducible] Aw
def stopV (n : Int) : AV := .iface 186 (.agg [.int .i64 n])
theorem v74 (n : Int) : V Tryz.prog 74 [.int .i64 n] (if n = 0 then .ret (.tup []) else .pan (stopV n)) := by
  refine V_of p74 (by simp) (by simp) (by split <;> rfl) ?_
  unfold c74
  simp -implicitDefEqProofs
  exact fun h => by rw [if_neg h]; rfl
theorem stopP {n : Int} (h : n ≠ 0) : V Tryz.prog 74 [.int .i64 n] (.pan (stopV n)) := by
  have := v74 n; rwa [if_neg h] at this
theorem stopR : V Tryz.prog 74 [.int .i64 0] (.ret (.tup [])) := v74 0
theorem v75 (v : AV) (n : Int) (hv : v.pure = true) : V Tryz.prog 75 [v, .int .i64 n] (if n = 0 then .ret v else .pan (stopV n)) := by
  refine V_of p75 (by simp) (by simp [hv]) (by split <;> first | exact hv | rfl) ?_
  unfold c75
  simp -implicitDefEqProofs
  have h := v74 n
  by_cases e : n = 0
  · rw [if_pos e] at h ⊢
    refine callB_ret h ?_
    simp -implicitDefEqProofs [frz_pure _ v hv]
  · rw [if_neg e] at h ⊢
    refine callB_pan h ?_
    simp -implicitDefEqProofs [stopV]
theorem v77 (v : AV) (n : Int) (hv : v.pure = true) : V Tryz.prog 77 [v, .int .i64 n] (if n = 0 then .ret v else .pan (stopV n)) := by
  refine V_of p77 (by simp) (by simp [hv]) (by split <;> first | exact hv | rfl) ?_
  unfold c77
  simp -implicitDefEqProofs
  have h := v74 n
  by_cases e : n = 0
  · rw [if_pos e] at h ⊢
    refine callB_ret h ?_
    simp -implicitDefEqProofs [frz_pure _ v hv]
  · rw [if_neg e] at h ⊢
    refine callB_pan h ?_
    simp -implicitDefEqProofs [stopV]
theorem v79 (v : AV) (n : Int) (hv : v.pure = true) : V Tryz.prog 79 [v, .int .i64 n] (if n = 0 then .ret v else .pan (stopV n)) := by
  refine V_of p79 (by simp) (by simp [hv]) (by split <;> first | exact hv | rfl) ?_
  unfold c79
  simp -implicitDefEqProofs
  have h := v74 n
  by_cases e : n = 0
  · rw [if_pos e] at h ⊢
    refine callB_ret h ?_
    simp -implicitDefEqProofs [frz_pure _ v hv]
  · rw [if_neg e] at h ⊢
    refine callB_pan h ?_
    simp -implicitDefEqProofs [stopV]
theorem v121 (s : Str) (hs : s.length < 2 ^ 48) : V Tryz.prog 121 [.str s] (.ret (.tup [.int .i64 (numS s).1, .int .i64 (numS s).2])) := by
  refine V_of p121 (by simp) (by simp) (by simp [Out.pure]) ?_
  unfold c121
  simp -implicitDefEqProofs
  refine ⟨fun a => callA_of (v_trim s digits hs (by decide) (by decide)) ?_, fun a => by simp [numS, a]⟩
  have hd := trimS_digits s
  generalize hr : numS s = r
  unfold numS at hr
  simp -implicitDefEqProofs
  refine ⟨fun b => ?_, fun b => ?_⟩
  · rw [b] at hd
    cases s with
    | nil => exact absurd rfl a
    | cons c s =>
    have hd2 : List.all (c :: s) digCh = true := by rw [← hd]; rfl
    rw [hd2] at hr
    have hc : (c = 48) ↔ ((c.toNat : Int) = 48) := by
      constructor
      · intro e; rw [e]; rfl
      · intro e; exact UInt8.toNat_inj.1 (by rw [show c.toNat = 48 by omega]; rfl)
    simp -implicitDefEqProofs
    refine ⟨fun e => ⟨fun e2 => ?_, fun e2 e3 => ?_⟩, fun e => ?_⟩
    · rw [if_pos (.inr (.inr ⟨by simp [hc, e], by intro q; simp at q; exact absurd q.2 (e2 q.1)⟩))] at hr; rw [← hr]; exact ⟨rfl, rfl⟩
    · rw [if_neg (by simp [e2, e3])] at hr
      rcases parse_digits (c :: s) (by simp) hd2 with hq | ⟨v, hq⟩
      · rw [hq] at hr
        refine callA_of (v_parse_range _ hs hq) ?_
        simp -implicitDefEqProofs
        simp [← hr]
      · rw [hq] at hr
        refine callA_of (v_parse_ok _ v hs hq) ?_
        simp -implicitDefEqProofs
        simp [← hr]
    · rw [if_neg (by simp [hc, e])] at hr
      rcases parse_digits (c :: s) (by simp) hd2 with hq | ⟨v, hq⟩
      · rw [hq] at hr
        refine callA_of (v_parse_range _ hs hq) ?_
        simp -implicitDefEqProofs
        simp [← hr]
      · rw [hq] at hr
        refine callA_of (v_parse_ok _ v hs hq) ?_
        simp -implicitDefEqProofs
        simp [← hr]
  · rw [decide_eq_false b] at hd
    rw [if_pos (.inr (.inl hd.symm))] at hr; rw [← hr]; exact ⟨rfl, rfl⟩
end Go.Proofs.YtmgoencdjkaobaaGreatDoor
