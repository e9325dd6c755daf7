/- Contracts: what the law holds the node's words to first. The conditions stand in each. -/
import Derived.Test.YtmgoencdjkaobaaGreatDoorNpP5
set_option linter.unusedVariables false
set_option linter.unusedSimpArgs false
namespace Go.Proofs.YtmgoencdjkaobaaGreatDoor
open Go Go.Pe
attribute [local irreducible] Aw
/-- n1 cpu=100,mem=8 zone:a gpu:yes! up -/
def kt1 : Str := [110, 49, 32, 99, 112, 117, 61, 49, 48, 48, 44, 109, 101, 109, 61, 56, 32, 122, 111, 110, 101, 58, 97, 32, 103, 112, 117, 58, 121, 101, 115, 33, 32, 117, 112]
def kn1 : Nd := ⟨[110, 49], [⟨[99, 112, 117], 100⟩, ⟨[109, 101, 109], 8⟩], [⟨[122, 111, 110, 101], [97]⟩], [⟨[103, 112, 117], [121, 101, 115], true⟩], false⟩
def kn2 : Nd := ⟨[110, 50], [], [], [], true⟩
theorem k1 : V Tryz.prog 28 [.str kt1] (.ret (.tup [kn1.av, .int .i64 0])) := by
  have := v28 kt1 (by decide)
  rwa [show parseNode kt1 = (kn1, 0) by decide +kernel] at this
theorem k2 : V Tryz.prog 28 [.str [110, 50, 32, 45, 32, 45, 32, 45, 32, 99, 111, 114, 100, 111, 110]] (.ret (.tup [kn2.av, .int .i64 0])) := by
  have := v28 [110, 50, 32, 45, 32, 45, 32, 45, 32, 99, 111, 114, 100, 111, 110] (by decide)
  rwa [show parseNode [110, 50, 32, 45, 32, 45, 32, 45, 32, 99, 111, 114, 100, 111, 110] = (kn2, 0) by decide +kernel] at this
theorem k3 : V Tryz.prog 28 [.str [110, 49, 32, 45, 32, 45, 32, 45, 32, 100, 111, 119, 110]] (.ret (.tup [Nd.zero.av, .int .i64 2])) := by
  have := v28 [110, 49, 32, 45, 32, 45, 32, 45, 32, 100, 111, 119, 110] (by decide)
  rwa [show parseNode [110, 49, 32, 45, 32, 45, 32, 45, 32, 100, 111, 119, 110] = (Nd.zero, 2) by decide +kernel] at this
theorem k4 : V Tryz.prog 28 [.str [110, 49, 32, 99, 112, 117, 61, 48, 32, 45, 32, 45, 32, 117, 112]] (.ret (.tup [Nd.zero.av, .int .i64 1])) := by
  have := v28 [110, 49, 32, 99, 112, 117, 61, 48, 32, 45, 32, 45, 32, 117, 112] (by decide)
  rwa [show parseNode [110, 49, 32, 99, 112, 117, 61, 48, 32, 45, 32, 45, 32, 117, 112] = (Nd.zero, 1) by decide +kernel] at this
theorem k5 : V Tryz.prog 28 [.str [78, 49, 32, 45, 32, 45, 32, 45, 32, 117, 112]] (.ret (.tup [Nd.zero.av, .int .i64 3])) := by
  have := v28 [78, 49, 32, 45, 32, 45, 32, 45, 32, 117, 112] (by decide)
  rwa [show parseNode [78, 49, 32, 45, 32, 45, 32, 45, 32, 117, 112] = (Nd.zero, 3) by decide +kernel] at this
theorem k6 : V Tryz.prog 12 [.sl 5 ([kn1, kn2].map Nd.av), .str [110, 50]] (.ret (.tup [kn2.av, .bool true])) := by
  have := v12 [kn1, kn2] [110, 50] (by decide)
  rwa [show findNode [kn1, kn2] [110, 50] = (kn2, true) by decide +kernel] at this
theorem k7 : V Tryz.prog 12 [.sl 5 ([kn1, kn2].map Nd.av), .str [110, 51]] (.ret (.tup [Nd.zero.av, .bool false])) := by
  have := v12 [kn1, kn2] [110, 51] (by decide)
  rwa [show findNode [kn1, kn2] [110, 51] = (Nd.zero, false) by decide +kernel] at this
theorem f1 : kn1.fine := ⟨⟨by decide, by decide, by decide⟩, by decide, by simp [kn1, Amt.fine], by simp [kn1, Pair.fine], by simp [kn1, Taint.fine]⟩
theorem f2 : kn2.fine := ⟨⟨by decide, by decide, by decide⟩, by decide, by simp [kn2], by simp [kn2], by simp [kn2]⟩
theorem k8 : V Tryz.prog 29 [kn1.av] (.ret (.str kt1)) := by
  have := v29 kn1 ⟨f1.ok, by decide +kernel, by simp [kn1], by decide +kernel, by decide +kernel, by decide⟩
  rwa [show nodeT kn1 = kt1 by decide +kernel] at this
theorem k9 : V Tryz.prog 30 [kn2.av, kn2.av] (.ret (.bool true)) := by
  have := v30 kn2 kn2 f2.ok
  rwa [show decide (kn2 = kn2) = true by decide] at this
theorem k10 : V Tryz.prog 30 [kn1.av, kn2.av] (.ret (.bool false)) := by
  have := v30 kn1 kn2 f1.ok
  rwa [show decide (kn1 = kn2) = false by decide] at this
theorem k11 : V Tryz.prog 31 [kn1.av] (.ret (.int .i64 0)) := by
  have := v31 kn1 f1
  rwa [show checkNode kn1 = 0 by decide +kernel] at this
theorem k12 : V Tryz.prog 11 [.sl 5 ([kn1, kn2].map Nd.av)] (.ret (.int .i64 0)) := by
  have := v11 [kn1, kn2] (by decide) (by intro a ha; simp at ha; rcases ha with rfl | rfl; exact f1; exact f2)
  rwa [show checkNodes [kn1, kn2] = 0 by decide +kernel] at this
theorem k13 : V Tryz.prog 11 [.sl 5 ([kn2, kn1].map Nd.av)] (.ret (.int .i64 13)) := by
  have := v11 [kn2, kn1] (by decide) (by intro a ha; simp at ha; rcases ha with rfl | rfl; exact f2; exact f1)
  rwa [show checkNodes [kn2, kn1] = 13 by decide +kernel] at this
theorem v7 : V Tryz.prog 7 [] (.ret (.bool true)) := by
  refine V_of p7 (by simp) (by simp) rfl ?_
  unfold c7
  simp -implicitDefEqProofs
  refine callA_of k1 ?_
  simp -implicitDefEqProofs
  refine callA_of k2 ?_
  simp -implicitDefEqProofs
  refine callA_of k3 ?_
  simp -implicitDefEqProofs
  refine callA_of k4 ?_
  simp -implicitDefEqProofs
  refine callA_of k5 ?_
  simp -implicitDefEqProofs
  refine callA_of k6 ?_
  simp -implicitDefEqProofs
  refine callA_of k7 ?_
  have hw : IntKind.i64.wrap 0 = 0 := by decide
  simp -implicitDefEqProofs [hw]
  refine callA_of k8 ?_
  have hc : kn2.cordon = true := rfl
  simp -implicitDefEqProofs [kt1, hc]
  refine callA_of k9 ?_
  simp -implicitDefEqProofs
  refine callA_of k10 ?_
  simp -implicitDefEqProofs
  refine callA_of k11 ?_
  simp -implicitDefEqProofs
  refine callA_of k12 ?_
  simp -implicitDefEqProofs
  refine callA_of k13 ?_
  simp -implicitDefEqProofs
theorem fewN_fine {n : Nd} (h : fewN n = true) : n.fine := by
  simp [fewN, few2, few4, few5] at h
  obtain ⟨h1, ⟨h2, h3⟩, ⟨h4, h5⟩, h6, h7⟩ := h
  exact ⟨⟨by omega, by omega, by omega⟩, by omega, fun a ha => by have := h3 a ha; show a.name.length < _; omega, fun a ha => by have := h5 a ha; exact ⟨by omega, by omega⟩, fun a ha => by have := h7 a ha; exact ⟨by omega, by omega⟩⟩
/-- Whatever nodes it is handed, and whatever name: the law holds. -/
theorem v3 (x : List Nd) (s : Str) : V Tryz.prog 3 [.sl 5 (x.map Nd.av), .str s] (.ret (.bool true)) := by
  refine V_of p3 (by simp) (by simp) rfl ?_
  unfold c3
  simp -implicitDefEqProofs
  refine callA_of v7 ?_
  simp -implicitDefEqProofs
  intro hl
  have hx : x.length < 2 ^ 40 := by omega
  refine aw_for x.length (fun i => ∀ n ∈ x.take i, fewN n = true) (fun i => [(0, .sl 5 (x.map Nd.av)), (1, .str s), (5, .int .i64 i)]) (by simp) (by simp) ?_
  intro i hi hj
  simp -implicitDefEqProofs
  refine ⟨fun h1 => ?_, fun h1 => ?_⟩
  · simp -implicitDefEqProofs [h1]
    refine callA_of (v8 _) ?_
    simp -implicitDefEqProofs
    intro h2
    refine ⟨i + 1, ⟨by omega, by omega⟩, ?_, step64 h1 (by omega)⟩
    intro n hn
    rw [List.take_add_one, List.getElem?_eq_getElem h1] at hn
    rcases List.mem_append.1 hn with h | h
    · exact hj n h
    · simp at h; rw [h]; exact h2
  · rw [List.take_of_length_le h1] at hj
    have hf : ∀ n ∈ x, n.fine := fun n h => fewN_fine (hj n h)
    refine callA_of (v9 x hx fun n h => (hf n h).ok) ?_
    simp -implicitDefEqProofs
    refine callA_of (v10 x hx hf) ?_
    simp -implicitDefEqProofs
    refine callA_of (v11 x hx hf) ?_
    simp -implicitDefEqProofs
    intro h2
    refine callA_of (v12 x s hx) ?_
    simp -implicitDefEqProofs
    refine callA_of (v13 x s hx) ?_
    simp -implicitDefEqProofs
    have hok : (findNode x s).1.ok := by
      unfold findNode
      split
      · rename_i h; exact (hf _ (List.mem_of_find?_eq_some h)).ok
      · exact ⟨by decide, by decide, by decide⟩
    refine callA_of (v15 _ hok) ?_
    simp -implicitDefEqProofs
    refine callA_of (v14 _ _ hok) ?_
    simp -implicitDefEqProofs
end Go.Proofs.YtmgoencdjkaobaaGreatDoor
