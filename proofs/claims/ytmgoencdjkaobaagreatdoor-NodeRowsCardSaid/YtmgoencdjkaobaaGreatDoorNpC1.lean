/- Contracts: vectors, labels, taints, nodes: the laws' own functions. The conditions stand in each. -/
import Derived.Test.YtmgoencdjkaobaaGreatDoorNpS
import Derived.Test.YtmgoencdjkaobaaGreatDoorPeP
import Derived.Test.YtmgoencdjkaobaaGreatDoorNpE2
import Derived.Test.YtmgoencdjkaobaaGreatDoorNpE3
set_option linter.unusedVariables false
set_option linter.unusedSimpArgs false
namespace Go.Proofs.YtmgoencdjkaobaaGreatDoor
open Go Go.Pe
attribute [local irreducible] Aw
theorem v32 (x : List Amt) : V Tryz.prog 32 [.sl 2 (x.map Amt.av)] (.ret (.bool (few2 x))) := by
  refine V_of p32 (by simp) (by simp) rfl ?_
  unfold c32
  simp -implicitDefEqProofs
  refine ⟨fun h => by simp [few2]; omega, fun h => ?_⟩
  have hx : x.length < 2 ^ 48 := by omega
  refine aw_for x.length (fun i => few2 x = (x.drop i).all fun a => decide (a.name.length ≤ 50)) (fun i => [(0, .sl 2 (x.map Amt.av)), (3, .int .i64 i)]) (by simp) (by simp [few2]; omega) ?_
  intro i hi hj
  simp -implicitDefEqProofs +contextual
  refine ⟨fun h1 => ?_, fun h1 => by rw [hj, List.drop_of_length_le h1]; rfl⟩
  rw [List.drop_eq_getElem_cons h1, List.all_cons] at hj
  refine ⟨fun h2 => ?_, fun h2 => ⟨i + 1, ⟨by omega, by omega⟩, ?_, step64 h1 hx⟩⟩
  · rw [hj, decide_eq_false (by omega)]; rfl
  · rw [hj, decide_eq_true (by omega)]; rfl
theorem v33 (x : List Pair) : V Tryz.prog 33 [.sl 2 (x.map Pair.av)] (.ret (.bool (few4 x))) := by
  refine V_of p33 (by simp) (by simp) rfl ?_
  unfold c33
  simp -implicitDefEqProofs
  refine ⟨fun h => by simp [few4]; omega, fun h => ?_⟩
  have hx : x.length < 2 ^ 48 := by omega
  refine aw_for x.length (fun i => few4 x = (x.drop i).all fun a => decide (a.k.length ≤ 50 ∧ a.v.length ≤ 50)) (fun i => [(0, .sl 2 (x.map Pair.av)), (3, .int .i64 i)]) (by simp) (by simp [few4]; omega) ?_
  intro i hi hj
  simp -implicitDefEqProofs +contextual
  refine ⟨fun h1 => ?_, fun h1 => by rw [hj, List.drop_of_length_le h1]; rfl⟩
  rw [List.drop_eq_getElem_cons h1, List.all_cons] at hj
  refine ⟨fun h2 => ⟨fun h3 => ?_, fun h3 => ⟨i + 1, ⟨by omega, by omega⟩, ?_, step64 h1 hx⟩⟩, fun h2 => ?_⟩
  · rw [hj, decide_eq_false (by omega)]; rfl
  · rw [hj, decide_eq_true (by omega)]; simp
  · rw [hj, decide_eq_false (by omega)]; rfl
theorem v41 (x : List Amt) (hx : x.length < 2 ^ 40) : V Tryz.prog 41 [.sl 2 (x.map Amt.av)] (.ret (.sl 2 (x.map Amt.av))) := by
  refine V_of p41 (by simp) (by simp) (by simp [Out.pure]) ?_
  unfold c41
  simp -implicitDefEqProofs
  refine aw_index (σ := Unit) x.length (fun i _ => True) (fun i _ => [(0, .sl 2 (x.map Amt.av)), (3, .osl 0 i 0 i), (4, .int .i64 i)]) (fun i _ => [⟨i, 2, 150, true, (x.take i).map Amt.av⟩]) () ?_ trivial ?_
  · have := Le.ghost (nt := 26) (b := 0) (tm := [(0, AV.sl 2 (x.map Amt.av)), (3, .nils), (4, .int .i64 0)]) (h := []) 3 2 150 (by simp)
    simpa [setT] using this
  intro i _ hi _
  simp -implicitDefEqProofs +contextual
  refine ⟨fun h1 => ⟨⟨by omega, by omega⟩, i + 1, ⟨by omega, by omega⟩, ⟨rfl, step64 h1 (by omega)⟩, rfl, ?_⟩, fun h1 => ?_⟩
  · rw [List.take_add_one]; simp [h1]
  · rw [List.take_take, Nat.min_self, List.take_of_length_le (by simpa using h1)]
theorem v42 (x : List Pair) (hx : x.length < 2 ^ 40) : V Tryz.prog 42 [.sl 2 (x.map Pair.av)] (.ret (.sl 2 (x.map Pair.av))) := by
  refine V_of p42 (by simp) (by simp) (by simp [Out.pure]) ?_
  unfold c42
  simp -implicitDefEqProofs
  refine aw_index (σ := Unit) x.length (fun i _ => True) (fun i _ => [(0, .sl 2 (x.map Pair.av)), (3, .osl 0 i 0 i), (4, .int .i64 i)]) (fun i _ => [⟨i, 2, 151, true, (x.take i).map Pair.av⟩]) () ?_ trivial ?_
  · have := Le.ghost (nt := 26) (b := 0) (tm := [(0, AV.sl 2 (x.map Pair.av)), (3, .nils), (4, .int .i64 0)]) (h := []) 3 2 151 (by simp)
    simpa [setT] using this
  intro i _ hi _
  simp -implicitDefEqProofs +contextual
  refine ⟨fun h1 => ⟨⟨by omega, by omega⟩, i + 1, ⟨by omega, by omega⟩, ⟨rfl, step64 h1 (by omega)⟩, rfl, ?_⟩, fun h1 => ?_⟩
  · rw [List.take_add_one]; simp [h1]
  · rw [List.take_take, Nat.min_self, List.take_of_length_le (by simpa using h1)]
theorem v43 (x : List Taint) (hx : x.length < 2 ^ 40) : V Tryz.prog 43 [.sl 3 (x.map Taint.av)] (.ret (.sl 3 (x.map Taint.av))) := by
  refine V_of p43 (by simp) (by simp) (by simp [Out.pure]) ?_
  unfold c43
  simp -implicitDefEqProofs
  refine aw_index (σ := Unit) x.length (fun i _ => True) (fun i _ => [(0, .sl 3 (x.map Taint.av)), (3, .osl 0 i 0 i), (4, .int .i64 i)]) (fun i _ => [⟨i, 3, 152, true, (x.take i).map Taint.av⟩]) () ?_ trivial ?_
  · have := Le.ghost (nt := 31) (b := 0) (tm := [(0, AV.sl 3 (x.map Taint.av)), (3, .nils), (4, .int .i64 0)]) (h := []) 3 3 152 (by simp)
    simpa [setT] using this
  intro i _ hi _
  simp -implicitDefEqProofs +contextual
  refine ⟨fun h1 => ⟨⟨by omega, by omega⟩, i + 1, ⟨by omega, by omega⟩, ⟨rfl, step64 h1 (by omega)⟩, rfl, ?_⟩, fun h1 => ?_⟩
  · rw [List.take_add_one]; simp [h1]
  · rw [List.take_take, Nat.min_self, List.take_of_length_le (by simpa using h1)]
theorem v15 (n : Nd) (hn : n.ok) : V Tryz.prog 15 [n.av] (.ret n.av) := by
  refine V_of p15 (by simp) (by simp) (by simp [Out.pure]) ?_
  unfold c15
  simp -implicitDefEqProofs
  refine callA_of (v41 n.cap hn.cap) ?_
  simp -implicitDefEqProofs
  refine callA_of (v42 n.labels hn.labels) ?_
  simp -implicitDefEqProofs
  refine callA_of (v43 n.taints hn.taints) ?_
  simp -implicitDefEqProofs
theorem v9 (x : List Nd) (hx : x.length < 2 ^ 40) (hn : ∀ n ∈ x, n.ok) : V Tryz.prog 9 [.sl 5 (x.map Nd.av)] (.ret (.sl 5 (x.map Nd.av))) := by
  refine V_of p9 (by simp) (by simp) (by simp [Out.pure]) ?_
  unfold c9
  simp -implicitDefEqProofs
  refine aw_index (σ := Unit) x.length (fun i _ => True) (fun i _ => [(0, .sl 5 (x.map Nd.av)), (3, .osl 0 i 0 i), (4, .int .i64 i)]) (fun i _ => [⟨i, 5, 43, true, (x.take i).map Nd.av⟩]) () ?_ trivial ?_
  · have := Le.ghost (nt := 20) (b := 0) (tm := [(0, AV.sl 5 (x.map Nd.av)), (3, .nils), (4, .int .i64 0)]) (h := []) 3 5 43 (by simp)
    simpa [setT] using this
  intro i _ hi _
  simp -implicitDefEqProofs
  refine ⟨fun h1 => ?_, fun h1 => ?_⟩
  · simp -implicitDefEqProofs [h1]
    refine callA_of (v15 x[i] (hn _ (List.getElem_mem h1))) ?_
    simp -implicitDefEqProofs
    refine ⟨⟨by omega, by omega⟩, i + 1, ⟨by omega, by omega⟩, ⟨rfl, step64 h1 (by omega)⟩, rfl, ?_⟩
    rw [List.take_add_one]; simp [h1]
  · rw [List.take_take, Nat.min_self, List.take_of_length_le (by simpa using h1)]
theorem v34 (x : List Taint) : V Tryz.prog 34 [.sl 3 (x.map Taint.av)] (.ret (.bool (few5 x))) := by
  refine V_of p34 (by simp) (by simp) rfl ?_
  unfold c34
  simp -implicitDefEqProofs
  refine ⟨fun h => by simp [few5]; omega, fun h => ?_⟩
  have hx : x.length < 2 ^ 48 := by omega
  refine aw_for x.length (fun i => few5 x = (x.drop i).all fun a => decide (a.k.length ≤ 50 ∧ a.v.length ≤ 50)) (fun i => [(0, .sl 3 (x.map Taint.av)), (3, .int .i64 i)]) (by simp) (by simp [few5]; omega) ?_
  intro i hi hj
  simp -implicitDefEqProofs +contextual
  refine ⟨fun h1 => ?_, fun h1 => by rw [hj, List.drop_of_length_le h1]; rfl⟩
  rw [List.drop_eq_getElem_cons h1, List.all_cons] at hj
  refine ⟨fun h2 => ⟨fun h3 => ?_, fun h3 => ⟨i + 1, ⟨by omega, by omega⟩, ?_, step64 h1 hx⟩⟩, fun h2 => ?_⟩
  · rw [hj, decide_eq_false (by omega)]; rfl
  · rw [hj, decide_eq_true (by omega)]; simp
  · rw [hj, decide_eq_false (by omega)]; rfl
theorem v8 (n : Nd) : V Tryz.prog 8 [n.av] (.ret (.bool (fewN n))) := by
  refine V_of p8 (by simp) (by simp) rfl ?_
  unfold c8
  simp -implicitDefEqProofs
  refine ⟨fun hl => callA_of (v32 n.cap) ?_, fun hl => ?_⟩
  · simp -implicitDefEqProofs
    refine ⟨fun h4 => callA_of (v33 n.labels) ?_, fun h4 => by simp [fewN, h4]⟩
    simp -implicitDefEqProofs
    refine ⟨fun h5 => callA_of (v34 n.taints) ?_, fun h5 => by simp [fewN, h5]⟩
    simp -implicitDefEqProofs
    have : n.name.length ≤ 50 := by omega
    simp [fewN, h4, h5, this]
  · simp [fewN]; omega
theorem v55 (s : List UInt8) (hs : s.length < 2 ^ 48) : V Tryz.prog 55 [.str s] (.ret (.bool (isName s))) := by
  refine V_of p55 (by simp) (by simp) rfl ?_
  unfold c55
  simp -implicitDefEqProofs
  refine ⟨fun a1 => ⟨fun a2 => by simp [isName]; omega, fun a2 => ?_⟩, fun a1 => by simp [isName]; omega⟩
  refine aw_for s.length (fun i => isName s = (s.drop i).all nameCh) (fun i => [(0, .str s), (3, .int .i64 i)]) (by simp) (by
    have e1 : 1 ≤ s.length := by omega
    have e2 : s.length ≤ 12 := by omega
    simp [isName, e1, e2]) ?_
  intro i hi hj
  simp -implicitDefEqProofs +contextual
  refine ⟨fun h1 => ?_, fun h1 => by rw [hj, List.drop_of_length_le h1]; rfl⟩
  rw [List.drop_eq_getElem_cons h1, List.all_cons] at hj
  have bad : nameCh s[i] = false → isName s = false := fun h => by rw [hj, h]; rfl
  have good : nameCh s[i] = true → ∃ i', (i < i' ∧ i' ≤ s.length) ∧ isName s = (s.drop i').all nameCh ∧ IntKind.i64.wrap ((i : Int) + 1) = (i' : Int) := fun h => ⟨i + 1, ⟨by omega, by omega⟩, by rw [hj, h]; rfl, step64 h1 hs⟩
  refine ⟨fun b1 => ⟨fun b2 => ⟨fun b3 => ⟨fun b4 => bad ?_, fun b4 => good ?_⟩, fun b3 => bad ?_⟩, fun b2 => good ?_⟩, fun b1 => ⟨fun b3 => ⟨fun b4 => bad ?_, fun b4 => good ?_⟩, fun b3 => bad ?_⟩⟩
  all_goals simp [nameCh]; omega
end Go.Proofs.YtmgoencdjkaobaaGreatDoor
