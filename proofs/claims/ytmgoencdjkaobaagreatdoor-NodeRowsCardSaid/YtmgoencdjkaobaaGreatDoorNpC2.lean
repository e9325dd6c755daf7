/- Contracts: what the laws' own functions say of vectors, sets of pairs, taints and nodes. The conditions stand in each. -/
import Derived.Test.YtmgoencdjkaobaaGreatDoorNpC1
set_option linter.unusedVariables false
set_option linter.unusedSimpArgs false
namespace Go.Proofs.YtmgoencdjkaobaaGreatDoor
open Go Go.Pe
attribute [local irreducible] Aw
theorem v56 (x : List Amt) (hx : x.length < 2 ^ 40) (hs : ∀ a ∈ x, a.fine) : V Tryz.prog 56 [.sl 2 (x.map Amt.av)] (.ret (.int .i64 (checkVec x))) := by
  refine V_of p56 (by simp) (by simp) rfl ?_
  unfold c56
  simp -implicitDefEqProofs
  refine ⟨fun h => by simp [checkVec]; omega, fun h => ?_⟩
  refine aw_for x.length (fun i => checkVec x = ckV (pv Amt.name x i) (x.drop i)) (fun i => [(0, .sl 2 (x.map Amt.av)), (3, .int .i64 i)]) (by simp) (by simp [checkVec, pv]; omega) ?_
  intro i hi hj
  simp -implicitDefEqProofs
  refine ⟨fun h1 => ?_, fun h1 => by rw [hj, List.drop_of_length_le h1]; simp [ckV]⟩
  rw [List.drop_eq_getElem_cons h1, ckV] at hj
  simp -implicitDefEqProofs [h1]
  refine callA_of (v55 _ (hs _ (List.getElem_mem h1))) ?_
  have hw : IntKind.i64.wrap ((i : Int) + 1) = ((i + 1 : Nat) : Int) := step64 h1 (by omega)
  rcases i with _ | j
  · simp -implicitDefEqProofs [h1]
    refine ⟨fun a => by simp [hj, a], fun a => ⟨fun b => by simp [hj, a, b], fun b => ⟨1, ⟨by omega, by omega⟩, ?_, hw⟩⟩⟩
    rw [hj]; simp [a, Int.not_le.mpr b, beh, pv, h1]
  · have hb : IntKind.i64.wrap (j : Int) = j := w64 (by omega)
    have hl : j < x.length := by omega
    simp -implicitDefEqProofs [h1, hb, hl]
    refine ⟨fun a => by simp [hj, a], fun a => ⟨⟨by omega, by omega⟩, fun b => by simp [hj, a, b], fun b => ⟨⟨by omega, by omega⟩, fun d => ?_, fun d e => ⟨j + 1 + 1, ⟨by omega, by omega⟩, ?_, by simpa using hw⟩⟩⟩⟩
    · rw [hj]; simp [a, Int.not_le.mpr b, beh, pv, hl, leS]
      exact fun e1 e2 => absurd d (by simp [e1, e2])
    · rw [hj]; simp [a, Int.not_le.mpr b, beh, pv, hl, h1, leS, d, e]
theorem v57 (x : List Pair) (hx : x.length < 2 ^ 40) (hs : ∀ a ∈ x, a.fine) : V Tryz.prog 57 [.sl 2 (x.map Pair.av)] (.ret (.int .i64 (checkSet x))) := by
  refine V_of p57 (by simp) (by simp) rfl ?_
  unfold c57
  simp -implicitDefEqProofs
  refine ⟨fun h => by simp [checkSet]; omega, fun h => ?_⟩
  refine aw_for x.length (fun i => checkSet x = ckS (pv Pair.k x i) (x.drop i)) (fun i => [(0, .sl 2 (x.map Pair.av)), (3, .int .i64 i)]) (by simp) (by simp [checkSet, pv]; omega) ?_
  intro i hi hj
  simp -implicitDefEqProofs
  refine ⟨fun h1 => ?_, fun h1 => by rw [hj, List.drop_of_length_le h1]; simp [ckS]⟩
  rw [List.drop_eq_getElem_cons h1, ckS] at hj
  simp -implicitDefEqProofs [h1]
  refine callA_of (v55 _ (hs _ (List.getElem_mem h1)).1) ?_
  have hw : IntKind.i64.wrap ((i : Int) + 1) = ((i + 1 : Nat) : Int) := step64 h1 (by omega)
  simp -implicitDefEqProofs [h1]
  refine ⟨fun a => callA_of (v55 _ (hs _ (List.getElem_mem h1)).2) ?_, fun a => by simp [hj, a]⟩
  rcases i with _ | j
  · simp -implicitDefEqProofs [h1, a]
    refine ⟨fun b => by simp [hj, a, b], fun b => ⟨1, ⟨by omega, by omega⟩, ?_, hw⟩⟩
    rw [hj]; simp [a, b, beh, pv, h1]
  · have hb : IntKind.i64.wrap (j : Int) = j := w64 (by omega)
    have hl : j < x.length := by omega
    simp -implicitDefEqProofs [h1, hb, hl, a]
    refine ⟨fun b => by simp [hj, a, b], fun b => ⟨⟨by omega, by omega⟩, fun d => ?_, fun d e => ⟨j + 1 + 1, ⟨by omega, by omega⟩, ?_, by simpa using hw⟩⟩⟩
    · rw [hj]; simp [a, b, beh, pv, hl, leS]
      exact fun e1 e2 => absurd d (by simp [e1, e2])
    · rw [hj]; simp [a, b, beh, pv, hl, h1, leS, d, e]
theorem v88 (x : List Taint) (hx : x.length < 2 ^ 40) (hs : ∀ a ∈ x, a.fine) : V Tryz.prog 88 [.sl 3 (x.map Taint.av)] (.ret (.int .i64 (checkTaints x))) := by
  refine V_of p88 (by simp) (by simp) rfl ?_
  unfold c88
  simp -implicitDefEqProofs
  refine ⟨fun h => by simp [checkTaints]; omega, fun h => ?_⟩
  refine aw_for x.length (fun i => checkTaints x = ckT (x.take i) (x.drop i)) (fun i => [(0, .sl 3 (x.map Taint.av)), (3, .int .i64 i)]) (by simp) (by simp [checkTaints]; omega) ?_
  intro i hi hj
  simp -implicitDefEqProofs
  refine ⟨fun h1 => ?_, fun h1 => by rw [hj, List.drop_of_length_le h1]; simp [ckT]⟩
  rw [List.drop_eq_getElem_cons h1, ckT] at hj
  simp -implicitDefEqProofs [h1]
  refine callA_of (v55 _ (hs _ (List.getElem_mem h1)).1) ?_
  have hw : IntKind.i64.wrap ((i : Int) + 1) = ((i + 1 : Nat) : Int) := step64 h1 (by omega)
  simp -implicitDefEqProofs [h1]
  refine ⟨fun a => callA_of (v55 _ (hs _ (List.getElem_mem h1)).2) ?_, fun a => by simp [hj, a]⟩
  simp -implicitDefEqProofs [h1, a]
  refine ⟨fun b => by simp [hj, a, b], fun b => ?_⟩
  refine aw_for i (fun m => ((x.take m).any fun y => decide (y.k = x[i].k) && decide (y.v = x[i].v)) = false) (fun m => [(0, .sl 3 (x.map Taint.av)), (3, .int .i64 i), (4, .int .i64 m)]) (by simp) (by simp) ?_
  intro m hm hk
  simp -implicitDefEqProofs
  refine ⟨fun h2 => ?_, fun h2 => ?_⟩
  · have h3 : m < x.length := by omega
    have hn : IntKind.i64.wrap ((m : Int) + 1) = ((m + 1 : Nat) : Int) := step64 h3 (by omega)
    have hs : ∀ p : Bool, (decide (x[m].k = x[i].k) && decide (x[m].v = x[i].v)) = p → ((x.take (m + 1)).any fun y => decide (y.k = x[i].k) && decide (y.v = x[i].v)) = p := by
      intro p hp
      rw [List.take_add_one, List.any_append, hk, List.getElem?_eq_getElem h3]
      simpa using hp
    have good : (decide (x[m].k = x[i].k) && decide (x[m].v = x[i].v)) = false → ∃ i', (m < i' ∧ i' ≤ i) ∧ (∀ x_1 : Taint, x_1 ∈ x.take i' → x_1.k = x[i].k → ¬ x_1.v = x[i].v) ∧ IntKind.i64.wrap ((m : Int) + 1) = (i' : Int) := fun hp => by
      refine ⟨m + 1, ⟨by omega, by omega⟩, ?_, hn⟩
      simpa using hs false hp
    simp -implicitDefEqProofs [h1, h3]
    refine ⟨fun e1 => ⟨fun e2 => ?_, fun e2 => good (by simp [e2])⟩, fun e1 => good (by simp [e1])⟩
    have h5 : ((x.take i).any fun y => decide (y.k = x[i].k) && decide (y.v = x[i].v)) = true := by
      rw [List.any_eq_true]
      exact ⟨x[m], List.mem_take_iff_getElem.mpr ⟨m, by omega, rfl⟩, by simp [e1, e2]⟩
    rw [hj, h5]; simp [a, b]
  · refine ⟨i + 1, ⟨by omega, by omega⟩, ?_, hw⟩
    have : m = i := by omega
    subst this
    rw [hj, hk, List.take_add_one, List.getElem?_eq_getElem h1]; simp [a, b]
theorem v35 (n : Nd) (hn : n.fine) : V Tryz.prog 35 [n.av] (.ret (.int .i64 (checkNode n))) := by
  refine V_of p35 (by simp) (by simp) rfl ?_
  unfold c35
  simp -implicitDefEqProofs
  refine callA_of (v55 _ hn.name) ?_
  simp -implicitDefEqProofs
  refine ⟨fun a => by simp [checkNode, a], fun a => callA_of (v56 _ hn.ok.cap hn.cap) ?_⟩
  simp -implicitDefEqProofs
  refine ⟨fun b => ?_, fun b => callA_of (v57 _ hn.ok.labels hn.labels) ?_⟩
  · simp [checkNode, a, b]
  simp -implicitDefEqProofs
  refine ⟨fun d => by simp [checkNode, a, b, d], fun d => callA_of (v88 _ hn.ok.taints hn.taints) ?_⟩
  simp -implicitDefEqProofs
  simp [checkNode, a, b, d]
theorem v10 (x : List Nd) (hx : x.length < 2 ^ 40) (hs : ∀ a ∈ x, a.fine) : V Tryz.prog 10 [.sl 5 (x.map Nd.av)] (.ret (.int .i64 (checkNodes x))) := by
  refine V_of p10 (by simp) (by simp) rfl ?_
  unfold c10
  simp -implicitDefEqProofs
  refine ⟨fun h => by simp [checkNodes]; omega, fun h => ?_⟩
  refine aw_for x.length (fun i => checkNodes x = ckRows Nd.name checkNode (pv Nd.name x i) (x.drop i)) (fun i => [(0, .sl 5 (x.map Nd.av)), (3, .int .i64 i)]) (by simp) (by simp [checkNodes, pv]; omega) ?_
  intro i hi hj
  simp -implicitDefEqProofs
  refine ⟨fun h1 => ?_, fun h1 => by rw [hj, List.drop_of_length_le h1]; simp [ckRows]⟩
  rw [List.drop_eq_getElem_cons h1, ckRows] at hj
  simp -implicitDefEqProofs [h1]
  refine callA_of (v35 _ (hs _ (List.getElem_mem h1))) ?_
  have hw : IntKind.i64.wrap ((i : Int) + 1) = ((i + 1 : Nat) : Int) := step64 h1 (by omega)
  rcases i with _ | j
  · simp -implicitDefEqProofs [h1]
    refine ⟨fun a => by simp [hj, a], fun a => ⟨1, ⟨by omega, by omega⟩, ?_, hw⟩⟩
    rw [hj]; simp [a, beh, pv, h1]
  · have hb : IntKind.i64.wrap (j : Int) = j := w64 (by omega)
    have hl : j < x.length := by omega
    simp -implicitDefEqProofs [h1, hb, hl]
    refine ⟨fun a => by simp [hj, a], fun a => ⟨⟨by omega, by omega⟩, fun d => ?_, fun d e => ⟨j + 1 + 1, ⟨by omega, by omega⟩, ?_, by simpa using hw⟩⟩⟩
    · rw [hj]; simp [a, beh, pv, hl, leS]
      exact fun e1 e2 => absurd d (by simp [e1, e2])
    · rw [hj]; simp [a, beh, pv, hl, h1, leS, d, e]
theorem v13 (x : List Nd) (s : Str) (hx : x.length < 2 ^ 40) : V Tryz.prog 13 [.sl 5 (x.map Nd.av), .str s] (.ret (.tup [(findNode x s).1.av, .bool (findNode x s).2])) := by
  suffices h : V Tryz.prog 13 [.sl 5 (x.map Nd.av), .str s] (.ret (match x.find? (fun n => decide (n.name = s)) with | some n => .tup [n.av, .bool true] | none => .tup [.agg [.str [], .nils, .nils, .nils, .bool false], .bool false])) by
    unfold findNode
    split
    · rename_i e; rw [e] at h; exact h
    · rename_i e; rw [e] at h
      exact h.weak (.tupL (.cons (.aggL (.cons (.refl _) (.cons (.nils 2) (.cons (.nils 2) (.cons (.nils 3) (.cons (.refl _) .nil)))))) (.cons (.refl _) .nil)))
  refine V_of p13 (by simp) (by simp) (by cases x.find? (fun n => decide (n.name = s)) <;> simp [Out.pure]) ?_
  unfold c13
  simp -implicitDefEqProofs
  refine aw_for x.length (fun i => x.find? (fun n => decide (n.name = s)) = (x.drop i).find? (fun n => decide (n.name = s))) (fun i => [(0, .sl 5 (x.map Nd.av)), (1, .str s), (4, .ptr 0 0 0 0), (6, .int .i64 i)]) (by simp) (by simp) ?_
  intro i hi hj
  simp -implicitDefEqProofs
  refine ⟨fun h1 => ?_, fun h1 => ?_⟩
  · have hw : IntKind.i64.wrap ((i : Int) + 1) = ((i + 1 : Nat) : Int) := step64 h1 (by omega)
    have hc : (x.drop i).find? (fun n => decide (n.name = s)) = if x[i].name = s then some x[i] else (x.drop (i + 1)).find? (fun n => decide (n.name = s)) := by
      rw [List.drop_eq_getElem_cons h1, List.find?_cons]
      by_cases e : x[i].name = s <;> simp [e]
    rw [hc] at hj
    simp -implicitDefEqProofs [h1]
    refine ⟨fun e => ?_, fun e => ⟨i + 1, ⟨by omega, by omega⟩, ?_, hw⟩⟩
    · rw [if_pos e] at hj; rw [hj]
    · rw [if_neg e] at hj; exact hj
  · rw [List.drop_of_length_le h1] at hj; rw [hj]; rfl
theorem v38 (x y : List Amt) (hx : x.length < 2 ^ 40) : V Tryz.prog 38 [.sl 2 (x.map Amt.av), .sl 2 (y.map Amt.av)] (.ret (.bool (decide (x = y)))) := by
  refine V_of p38 (by simp) (by simp) rfl ?_
  unfold c38
  simp -implicitDefEqProofs
  refine ⟨fun h e => h (by rw [e]), fun h => ?_⟩
  refine aw_for x.length (fun i => x.take i = y.take i) (fun i => [(0, .sl 2 (x.map Amt.av)), (1, .sl 2 (y.map Amt.av)), (5, .int .i64 i)]) (by simp) (by simp) ?_
  intro i hi hj
  simp -implicitDefEqProofs
  refine ⟨fun h1 => ?_, fun h1 => ?_⟩
  · have h2 : i < y.length := by omega
    simp -implicitDefEqProofs [h1, h2]
    refine ⟨fun d e => ?_, fun e0 e1 => ⟨i + 1, ⟨by omega, by omega⟩, ?_, step64 h1 (by omega)⟩⟩
    · subst e; simp at d
    · have : x[i] = y[i] := by
        revert e0 e1
        cases x[i]; cases y[i]; simp +contextual
      rw [List.take_add_one, List.take_add_one, hj, List.getElem?_eq_getElem h1, List.getElem?_eq_getElem h2, this]
  · rw [List.take_of_length_le h1, List.take_of_length_le (by omega)] at hj
    exact hj
theorem v39 (x y : List Pair) (hx : x.length < 2 ^ 40) : V Tryz.prog 39 [.sl 2 (x.map Pair.av), .sl 2 (y.map Pair.av)] (.ret (.bool (decide (x = y)))) := by
  refine V_of p39 (by simp) (by simp) rfl ?_
  unfold c39
  simp -implicitDefEqProofs
  refine ⟨fun h e => h (by rw [e]), fun h => ?_⟩
  refine aw_for x.length (fun i => x.take i = y.take i) (fun i => [(0, .sl 2 (x.map Pair.av)), (1, .sl 2 (y.map Pair.av)), (5, .int .i64 i)]) (by simp) (by simp) ?_
  intro i hi hj
  simp -implicitDefEqProofs
  refine ⟨fun h1 => ?_, fun h1 => ?_⟩
  · have h2 : i < y.length := by omega
    simp -implicitDefEqProofs [h1, h2]
    refine ⟨fun d e => ?_, fun e0 e1 => ⟨i + 1, ⟨by omega, by omega⟩, ?_, step64 h1 (by omega)⟩⟩
    · subst e; simp at d
    · have : x[i] = y[i] := by
        revert e0 e1
        cases x[i]; cases y[i]; simp +contextual
      rw [List.take_add_one, List.take_add_one, hj, List.getElem?_eq_getElem h1, List.getElem?_eq_getElem h2, this]
  · rw [List.take_of_length_le h1, List.take_of_length_le (by omega)] at hj
    exact hj
theorem v40 (x y : List Taint) (hx : x.length < 2 ^ 40) : V Tryz.prog 40 [.sl 3 (x.map Taint.av), .sl 3 (y.map Taint.av)] (.ret (.bool (decide (x = y)))) := by
  refine V_of p40 (by simp) (by simp) rfl ?_
  unfold c40
  simp -implicitDefEqProofs
  refine ⟨fun h e => h (by rw [e]), fun h => ?_⟩
  refine aw_for x.length (fun i => x.take i = y.take i) (fun i => [(0, .sl 3 (x.map Taint.av)), (1, .sl 3 (y.map Taint.av)), (5, .int .i64 i)]) (by simp) (by simp) ?_
  intro i hi hj
  simp -implicitDefEqProofs
  refine ⟨fun h1 => ?_, fun h1 => ?_⟩
  · have h2 : i < y.length := by omega
    simp -implicitDefEqProofs [h1, h2]
    refine ⟨fun d e => ?_, fun e0 e1 e2 => ⟨i + 1, ⟨by omega, by omega⟩, ?_, step64 h1 (by omega)⟩⟩
    · subst e; simp at d
    · have : x[i] = y[i] := by
        revert e0 e1 e2
        cases x[i]; cases y[i]; simp +contextual
      rw [List.take_add_one, List.take_add_one, hj, List.getElem?_eq_getElem h1, List.getElem?_eq_getElem h2, this]
  · rw [List.take_of_length_le h1, List.take_of_length_le (by omega)] at hj
    exact hj
theorem v14 (x y : Nd) (hx : x.ok) : V Tryz.prog 14 [x.av, y.av] (.ret (.bool (decide (x = y)))) := by
  refine V_of p14 (by simp) (by simp) rfl ?_
  unfold c14
  simp -implicitDefEqProofs
  refine ⟨fun e1 => ⟨fun e2 => callA_of (v38 _ _ hx.cap) ?_, fun n e => n (by rw [e])⟩, fun n e => n (by rw [e])⟩
  simp -implicitDefEqProofs
  refine ⟨fun e3 => callA_of (v39 _ _ hx.labels) ?_, fun n e => n (by rw [e])⟩
  simp -implicitDefEqProofs
  refine ⟨fun e4 => callA_of (v40 _ _ hx.taints) ?_, fun n e => n (by rw [e])⟩
  simp -implicitDefEqProofs
  cases x; cases y; simp at e1 e2 e3 e4; subst e1; subst e2; subst e3; subst e4
  simp
end Go.Proofs.YtmgoencdjkaobaaGreatDoor
