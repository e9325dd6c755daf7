/- Contracts: what the program says of names, vectors, sets of pairs, taints and nodes. The conditions stand in each. -/
import Derived.Test.YtmgoencdjkaobaaGreatDoorNpC2
import Derived.Test.YtmgoencdjkaobaaGreatDoorNpV1
import Derived.Test.YtmgoencdjkaobaaGreatDoorNpE1
import Derived.Test.YtmgoencdjkaobaaGreatDoorNpE4
set_option linter.unusedVariables false
set_option linter.unusedSimpArgs false
namespace Go.Proofs.YtmgoencdjkaobaaGreatDoor
open Go Go.Pe
attribute [local irreducible] Aw
theorem v131 (s : Str) (hs : s.length < 2 ^ 48) : V Tryz.prog 131 [.str s] (.ret (.bool (isName s))) := by
  rw [isName_trim]
  refine V_of p131 (by simp) (by simp) rfl ?_
  unfold c131
  simp -implicitDefEqProofs
  refine ⟨fun a => ⟨fun b => callA_of (v_trim s letters hs (by decide) (by decide)) ?_, fun b => ?_⟩, fun a => ?_⟩
  · simp -implicitDefEqProofs
    have h1 : 1 ≤ s.length := by omega
    have h2 : s.length ≤ 12 := by omega
    simp [h1, h2]
    cases Lib.trimS s letters <;> simp
  · exact fun _ h => absurd h (by omega)
  · exact fun h => absurd h (by omega)
theorem v85 (x : List Amt) (hx : x.length < 2 ^ 40) (hs : ∀ a ∈ x, a.fine) : V Tryz.prog 85 [.sl 2 (x.map Amt.av)] (.ret (.int .i64 (checkVec x))) := by
  refine V_of p85 (by simp) (by simp) rfl ?_
  unfold c85
  simp -implicitDefEqProofs
  refine ⟨fun h => by simp [checkVec]; omega, fun h => ?_⟩
  refine aw_forD x.length (fun i => checkVec x = ckV (pv Amt.name x i) (x.drop i)) (fun i => [(0, .sl 2 (x.map Amt.av)), (8, .sl 2 (x.map Amt.av)), (9, .int .i64 x.length), (10, .int .i64 i)]) (by simp) (by simp [checkVec, pv]; omega) (by simp [AV.refs]) ?_
  intro i hi hj
  simp -implicitDefEqProofs
  refine ⟨fun h1 => ?_, fun h1 => by rw [hj, List.drop_of_length_le h1]; simp [ckV]⟩
  rw [List.drop_eq_getElem_cons h1, ckV] at hj
  simp -implicitDefEqProofs [h1]
  refine callA_of (v131 _ (hs _ (List.getElem_mem h1))) ?_
  have hw : IntKind.i64.wrap ((i : Int) + 1) = ((i + 1 : Nat) : Int) := step64 h1 (by omega)
  rcases i with _ | j
  · simp -implicitDefEqProofs [h1]
    refine ⟨fun a => by simp [hj, a], fun a => ⟨fun b => by simp [hj, a, b], fun b => ⟨1, ⟨by omega, by omega⟩, ?_, hw⟩⟩⟩
    rw [hj]; simp [a, Int.not_le.mpr b, beh, pv, h1]
  · have hb : IntKind.i64.wrap (j : Int) = j := w64 (by omega)
    have hl : j < x.length := by omega
    simp -implicitDefEqProofs [h1, hb, hl]
    refine ⟨fun a => by simp [hj, a], fun a => ⟨fun b => by simp [hj, a, b], fun b => ⟨fun d => ?_, fun d e => ⟨j + 1 + 1, ⟨by omega, by omega⟩, ?_, by simpa using hw⟩⟩⟩⟩
    · rw [hj]; simp [a, Int.not_le.mpr b, beh, pv, hl, leS]
      exact fun e1 e2 => absurd d (by simp [e1, e2])
    · rw [hj]; simp [a, Int.not_le.mpr b, beh, pv, hl, h1, leS, d, e]
theorem v86 (x : List Pair) (hx : x.length < 2 ^ 40) (hs : ∀ a ∈ x, a.fine) : V Tryz.prog 86 [.sl 2 (x.map Pair.av)] (.ret (.int .i64 (checkSet x))) := by
  refine V_of p86 (by simp) (by simp) rfl ?_
  unfold c86
  simp -implicitDefEqProofs
  refine ⟨fun h => by simp [checkSet]; omega, fun h => ?_⟩
  refine aw_forD x.length (fun i => checkSet x = ckS (pv Pair.k x i) (x.drop i)) (fun i => [(0, .sl 2 (x.map Pair.av)), (8, .sl 2 (x.map Pair.av)), (9, .int .i64 x.length), (10, .int .i64 i)]) (by simp) (by simp [checkSet, pv]; omega) (by simp [AV.refs]) ?_
  intro i hi hj
  simp -implicitDefEqProofs
  refine ⟨fun h1 => ?_, fun h1 => by rw [hj, List.drop_of_length_le h1]; simp [ckS]⟩
  rw [List.drop_eq_getElem_cons h1, ckS] at hj
  simp -implicitDefEqProofs [h1]
  refine callA_of (v131 _ (hs _ (List.getElem_mem h1)).1) ?_
  have hw : IntKind.i64.wrap ((i : Int) + 1) = ((i + 1 : Nat) : Int) := step64 h1 (by omega)
  simp -implicitDefEqProofs [h1]
  refine ⟨fun a => callA_of (v131 _ (hs _ (List.getElem_mem h1)).2) ?_, fun a => by simp [hj, a]⟩
  rcases i with _ | j
  · simp -implicitDefEqProofs [h1, a]
    refine ⟨fun b => by simp [hj, a, b], fun b => ⟨1, ⟨by omega, by omega⟩, ?_, hw⟩⟩
    rw [hj]; simp [a, b, beh, pv, h1]
  · have hb : IntKind.i64.wrap (j : Int) = j := w64 (by omega)
    have hl : j < x.length := by omega
    simp -implicitDefEqProofs [h1, hb, hl, a]
    refine ⟨fun b => by simp [hj, a, b], fun b => ⟨fun d => ?_, fun d e => ⟨j + 1 + 1, ⟨by omega, by omega⟩, ?_, by simpa using hw⟩⟩⟩
    · rw [hj]; simp [a, b, beh, pv, hl, leS]
      exact fun e1 e2 => absurd d (by simp [e1, e2])
    · rw [hj]; simp [a, b, beh, pv, hl, h1, leS, d, e]
theorem v133 (x y : Taint) : V Tryz.prog 133 [y.av, .rp x.av.cells] (.ret (.bool (sameT x y))) := by
  refine V_of p133 (by simp) (by simp) rfl ?_
  unfold c133
  simp -implicitDefEqProofs
  refine ⟨fun e => by simp [sameT, e, Bool.beq_eq_decide_eq], fun e => by simp [sameT, e]⟩
theorem v157 (x : Taint) (l : List Taint) (hl : l.length < 2 ^ 40) : V Tryz.prog 157 [.sl 3 (l.map Taint.av), .fn 133 [.rp x.av.cells]] (.ret (.int .i64 (idx (sameT x) l))) := by
  refine V_of p157 (by simp) (by simp) rfl ?_
  unfold c157
  simp -implicitDefEqProofs
  refine aw_for l.length (fun i => ∀ y ∈ l.take i, sameT x y = false) (fun i => [(0, .sl 3 (l.map Taint.av)), (1, .fn 133 [.rp x.av.cells]), (7, .int .i64 l.length), (8, .int .i64 i)]) (by simp) (by simp) ?_
  intro i hi hj
  simp -implicitDefEqProofs
  refine ⟨fun h1 => ?_, fun h1 => ?_⟩
  · simp -implicitDefEqProofs [h1]
    refine ⟨by kernel_rfl, callA_of (v133 x l[i]) ?_⟩
    simp -implicitDefEqProofs
    refine ⟨fun e => ?_, fun e => ⟨i + 1, ⟨by omega, by omega⟩, ?_, step64 h1 (by omega)⟩⟩
    · rw [idx_at (sameT x) l i h1 hj e]
    · intro y hy
      rw [List.take_add_one, List.getElem?_eq_getElem h1] at hy
      rcases List.mem_append.1 hy with h | h
      · exact hj y h
      · simp at h; rw [h]; exact e
  · rw [idx_none (sameT x) l]
    rwa [List.take_of_length_le h1] at hj
theorem v132 (x : Taint) (l : List Taint) (hl : l.length < 2 ^ 40) : V Tryz.prog 132 [.sl 3 (l.map Taint.av), .fn 133 [.rp x.av.cells]] (.ret (.bool (l.any (sameT x)))) := by
  rw [← idx_any]
  refine V_of p132 (by simp) (by simp) rfl ?_
  unfold c132
  simp -implicitDefEqProofs
  refine callA_of (v157 x l hl) ?_
  simp -implicitDefEqProofs
theorem v87 (x : List Taint) (hx : x.length < 2 ^ 40) (hs : ∀ a ∈ x, a.fine) : V Tryz.prog 87 [.sl 3 (x.map Taint.av)] (.ret (.int .i64 (checkTaints x))) := by
  refine V_of p87 (by simp) (by simp) rfl ?_
  unfold c87
  simp -implicitDefEqProofs
  refine ⟨fun h => by simp [checkTaints]; omega, fun h => ?_⟩
  refine aw_forD x.length (fun i => checkTaints x = ckT (x.take i) (x.drop i)) (fun i => [(0, .sl 3 (x.map Taint.av)), (8, .sl 3 (x.map Taint.av)), (9, .int .i64 x.length), (10, .int .i64 i)]) (by simp) (by simp [checkTaints]; omega) (by simp [AV.refs]) ?_
  intro i hi hj
  simp -implicitDefEqProofs
  refine ⟨fun h1 => ?_, fun h1 => by rw [hj, List.drop_of_length_le h1]; simp [ckT]⟩
  rw [List.drop_eq_getElem_cons h1, ckT] at hj
  simp -implicitDefEqProofs [h1]
  refine callA_of (v131 _ (hs _ (List.getElem_mem h1)).1) ?_
  have hw : IntKind.i64.wrap ((i : Int) + 1) = ((i + 1 : Nat) : Int) := step64 h1 (by omega)
  simp -implicitDefEqProofs [h1]
  refine ⟨fun a => callA_of (v131 _ (hs _ (List.getElem_mem h1)).2) ?_, fun a => by simp [hj, a]⟩
  simp -implicitDefEqProofs [h1, a]
  refine ⟨fun b => by simp [hj, a, b], fun b => ?_⟩
  refine ⟨hi, callF_of (v132 x[i] (x.take i) (by simp; omega)) (by simp [List.map_take]) (by simp) rfl ?_⟩
  simp -implicitDefEqProofs
  refine ⟨fun y hy e => ?_, fun e => ⟨i + 1, ⟨by omega, by omega⟩, ?_, hw⟩⟩
  · have he : ((x.take i).any fun y => decide (y.k = x[i].k) && decide (y.v = x[i].v)) = true := List.any_eq_true.2 ⟨y, hy, e⟩
    rw [hj, he]; simp [a, b]
  · have he : ((x.take i).any fun y => decide (y.k = x[i].k) && decide (y.v = x[i].v)) = false := List.any_eq_false.2 fun y hy => by have := e y hy; simpa [sameT] using this
    rw [hj, he, List.take_add_one, List.getElem?_eq_getElem h1]; simp [a, b]
theorem v84 (s : Str) (hs : s.length < 2 ^ 48) : V Tryz.prog 84 [.str s] (.ret (.int .i64 (if isName s then 0 else 3))) := by
  refine V_of p84 (by simp) (by simp) rfl ?_
  unfold c84
  simp -implicitDefEqProofs
  refine callA_of (v131 s hs) ?_
  simp -implicitDefEqProofs
theorem v83 (l : List Int) (hl : l.length < 2 ^ 40) : V Tryz.prog 83 [.sl 1 (l.map (AV.int .i64))] (.ret (.int .i64 (firstI l))) := by
  refine V_of p83 (by simp) (by simp) rfl ?_
  unfold c83
  simp -implicitDefEqProofs
  refine aw_for l.length (fun i => firstI l = firstI (l.drop i)) (fun i => [(5, .sl 1 (l.map (AV.int .i64))), (6, .int .i64 l.length), (7, .int .i64 i)]) (by simp) (by simp) ?_
  intro i hi hj
  simp -implicitDefEqProofs
  refine ⟨fun h1 => ?_, fun h1 => by rw [hj, List.drop_of_length_le h1]; simp [firstI]⟩
  rw [List.drop_eq_getElem_cons h1, firstI] at hj
  simp -implicitDefEqProofs [h1]
  refine ⟨fun a => by simp [hj, a], fun a => ⟨i + 1, ⟨by omega, by omega⟩, by simp [hj, a], step64 h1 (by omega)⟩⟩
theorem v31 (n : Nd) (hn : n.fine) : V Tryz.prog 31 [n.av] (.ret (.int .i64 (checkNode n))) := by
  refine V_of p31 (by simp) (by simp) rfl ?_
  unfold c31
  simp -implicitDefEqProofs
  refine callA_of (v84 _ hn.name) ?_
  simp -implicitDefEqProofs
  refine callA_of (v85 _ hn.ok.cap hn.cap) ?_
  simp -implicitDefEqProofs
  refine callA_of (v86 _ hn.ok.labels hn.labels) ?_
  simp -implicitDefEqProofs
  refine callA_of (v87 _ hn.ok.taints hn.taints) ?_
  simp -implicitDefEqProofs
  refine callA_of (v83 [if isName n.name = true then 0 else 3, checkVec n.cap, checkSet n.labels, checkTaints n.taints] (by simp)) ?_
  simp -implicitDefEqProofs
  by_cases h1 : isName n.name = true <;> by_cases h2 : checkVec n.cap = 0 <;> by_cases h3 : checkSet n.labels = 0 <;> by_cases h4 : checkTaints n.taints = 0 <;> simp [checkNode, firstI, h1, h2, h3, h4]
theorem v37 (n : Nd) : V Tryz.prog 37 [n.av] (.ret (.str n.name)) := by
  refine V_of p37 (by simp) (by simp) rfl ?_
  unfold c37
  simp -implicitDefEqProofs
theorem v12 (x : List Nd) (s : Str) (hx : x.length < 2 ^ 40) : V Tryz.prog 12 [.sl 5 (x.map Nd.av), .str s] (.ret (.tup [(findNode x s).1.av, .bool (findNode x s).2])) := by
  suffices h : V Tryz.prog 12 [.sl 5 (x.map Nd.av), .str s] (.ret (match x.find? (fun n => decide (n.name = s)) with | some n => .tup [n.av, .bool true] | none => .tup [.agg [.str [], .nils, .nils, .nils, .bool false], .bool false])) by
    unfold findNode
    split
    · rename_i e; rw [e] at h; exact h
    · rename_i e; rw [e] at h
      exact h.weak (.tupL (.cons (.aggL (.cons (.refl _) (.cons (.nils 2) (.cons (.nils 2) (.cons (.nils 3) (.cons (.refl _) .nil)))))) (.cons (.refl _) .nil)))
  refine V_of p12 (by simp) (by simp) (by cases x.find? (fun n => decide (n.name = s)) <;> simp [Out.pure]) ?_
  unfold c12
  simp -implicitDefEqProofs
  refine aw_forD x.length (fun i => x.find? (fun n => decide (n.name = s)) = (x.drop i).find? (fun n => decide (n.name = s))) (fun i => [(1, .str s), (4, .ptr 0 0 0 0), (8, .sl 5 (x.map Nd.av)), (9, .int .i64 x.length), (10, .int .i64 i)]) (by simp) (by simp) (by simp [AV.refs, refsL]) ?_
  intro i hi hj
  simp -implicitDefEqProofs
  refine ⟨fun h1 => ?_, fun h1 => ?_⟩
  · have hw : IntKind.i64.wrap ((i : Int) + 1) = ((i + 1 : Nat) : Int) := step64 h1 (by omega)
    have hc : (x.drop i).find? (fun n => decide (n.name = s)) = if x[i].name = s then some x[i] else (x.drop (i + 1)).find? (fun n => decide (n.name = s)) := by
      rw [List.drop_eq_getElem_cons h1, List.find?_cons]
      by_cases e : x[i].name = s <;> simp [e]
    rw [hc] at hj
    simp -implicitDefEqProofs [h1]
    refine ⟨fun e => ?_, fun e => ⟨i + 1, ⟨by omega, by omega⟩, ?_, hw⟩⟩
    · rw [if_pos e] at hj; rw [hj]
    · rw [if_neg e] at hj; exact hj
  · rw [List.drop_of_length_le h1] at hj; rw [hj]; rfl
theorem v116 (x y : List Amt) (hx : x.length < 2 ^ 40) : V Tryz.prog 116 [.sl 2 (x.map Amt.av), .sl 2 (y.map Amt.av)] (.ret (.bool (decide (x = y)))) := by
  refine V_of p116 (by simp) (by simp) rfl ?_
  unfold c116
  simp -implicitDefEqProofs
  refine ⟨fun h e => h (by rw [e]), fun h => ?_⟩
  refine aw_for x.length (fun i => x.take i = y.take i) (fun i => [(0, .sl 2 (x.map Amt.av)), (1, .sl 2 (y.map Amt.av)), (12, .int .i64 x.length), (13, .int .i64 i)]) (by simp) (by simp) ?_
  intro i hi hj
  simp -implicitDefEqProofs
  refine ⟨fun h1 => ?_, fun h1 => ?_⟩
  · have h2 : i < y.length := by omega
    simp -implicitDefEqProofs [h1, h2]
    refine ⟨fun d e => ?_, fun e0 e1 => ⟨i + 1, ⟨by omega, by omega⟩, ?_, step64 h1 (by omega)⟩⟩
    · subst e; simp at d
    · have : x[i] = y[i] := by
        revert e0 e1
        cases x[i]; cases y[i]; simp +contextual
      rw [List.take_add_one, List.take_add_one, hj, List.getElem?_eq_getElem h1, List.getElem?_eq_getElem h2, this]
  · rw [List.take_of_length_le h1, List.take_of_length_le (by omega)] at hj
    exact hj
theorem v68 (x y : List Pair) (hx : x.length < 2 ^ 40) : V Tryz.prog 68 [.sl 2 (x.map Pair.av), .sl 2 (y.map Pair.av)] (.ret (.bool (decide (x = y)))) := by
  refine V_of p68 (by simp) (by simp) rfl ?_
  unfold c68
  simp -implicitDefEqProofs
  refine ⟨fun h e => h (by rw [e]), fun h => ?_⟩
  refine aw_for x.length (fun i => x.take i = y.take i) (fun i => [(0, .sl 2 (x.map Pair.av)), (1, .sl 2 (y.map Pair.av)), (12, .int .i64 x.length), (13, .int .i64 i)]) (by simp) (by simp) ?_
  intro i hi hj
  simp -implicitDefEqProofs
  refine ⟨fun h1 => ?_, fun h1 => ?_⟩
  · have h2 : i < y.length := by omega
    simp -implicitDefEqProofs [h1, h2]
    refine ⟨fun d e => ?_, fun e0 e1 => ⟨i + 1, ⟨by omega, by omega⟩, ?_, step64 h1 (by omega)⟩⟩
    · subst e; simp at d
    · have : x[i] = y[i] := by
        revert e0 e1
        cases x[i]; cases y[i]; simp +contextual
      rw [List.take_add_one, List.take_add_one, hj, List.getElem?_eq_getElem h1, List.getElem?_eq_getElem h2, this]
  · rw [List.take_of_length_le h1, List.take_of_length_le (by omega)] at hj
    exact hj
theorem v82 (x y : List Taint) (hx : x.length < 2 ^ 40) : V Tryz.prog 82 [.sl 3 (x.map Taint.av), .sl 3 (y.map Taint.av)] (.ret (.bool (decide (x = y)))) := by
  refine V_of p82 (by simp) (by simp) rfl ?_
  unfold c82
  simp -implicitDefEqProofs
  refine ⟨fun h e => h (by rw [e]), fun h => ?_⟩
  refine aw_for x.length (fun i => x.take i = y.take i) (fun i => [(0, .sl 3 (x.map Taint.av)), (1, .sl 3 (y.map Taint.av)), (12, .int .i64 x.length), (13, .int .i64 i)]) (by simp) (by simp) ?_
  intro i hi hj
  simp -implicitDefEqProofs
  refine ⟨fun h1 => ?_, fun h1 => ?_⟩
  · have h2 : i < y.length := by omega
    simp -implicitDefEqProofs [h1, h2]
    refine ⟨fun d e => ?_, fun e0 e1 e2 => ⟨i + 1, ⟨by omega, by omega⟩, ?_, step64 h1 (by omega)⟩⟩
    · subst e; simp at d
    · have : x[i] = y[i] := by
        revert e0 e1 e2
        cases x[i]; cases y[i]; simp +contextual
      rw [List.take_add_one, List.take_add_one, hj, List.getElem?_eq_getElem h1, List.getElem?_eq_getElem h2, this]
  · rw [List.take_of_length_le h1, List.take_of_length_le (by omega)] at hj
    exact hj
theorem v67 (x y : List Amt) (hx : x.length < 2 ^ 40) : V Tryz.prog 67 [.sl 2 (x.map Amt.av), .sl 2 (y.map Amt.av)] (.ret (.bool (decide (x = y)))) := by
  refine V_of p67 (by simp) (by simp) rfl ?_
  unfold c67
  simp -implicitDefEqProofs
  refine callA_of (v116 _ _ hx) ?_
  simp -implicitDefEqProofs
theorem v30 (x y : Nd) (hx : x.ok) : V Tryz.prog 30 [x.av, y.av] (.ret (.bool (decide (x = y)))) := by
  refine V_of p30 (by simp) (by simp) rfl ?_
  unfold c30
  simp -implicitDefEqProofs
  refine ⟨fun e1 => ⟨fun e2 => callA_of (v67 _ _ hx.cap) ?_, fun n e => n (by rw [e])⟩, fun n e => n (by rw [e])⟩
  simp -implicitDefEqProofs
  refine ⟨fun e3 => callA_of (v68 _ _ hx.labels) ?_, fun n e => n (by rw [e])⟩
  simp -implicitDefEqProofs
  refine ⟨fun e4 => callA_of (v82 _ _ hx.taints) ?_, fun n e => n (by rw [e])⟩
  simp -implicitDefEqProofs
  cases x; cases y; simp at e1 e2 e3 e4; subst e1; subst e2; subst e3; subst e4
  simp
theorem v36 (x : List Nd) (hx : x.length < 2 ^ 40) (hs : ∀ a ∈ x, a.fine) : V Tryz.prog 36 [.sl 5 (x.map Nd.av), .int .i64 32, .fn 37 [], .fn 31 []] (.ret (.int .i64 (checkNodes x))) := by
  refine V_of p36 (by simp) (by simp) rfl ?_
  unfold c36
  simp -implicitDefEqProofs
  refine ⟨fun h => by simp [checkNodes]; omega, fun h => ?_⟩
  refine aw_forD x.length (fun i => checkNodes x = ckRows Nd.name checkNode (pv Nd.name x i) (x.drop i)) (fun i => [(0, .sl 5 (x.map Nd.av)), (2, .fn 37 []), (3, .fn 31 []), (16, .sl 5 (x.map Nd.av)), (17, .int .i64 x.length), (18, .int .i64 i)]) (by simp) (by simp [checkNodes, pv]; omega) (by simp [AV.refs, refsL]) ?_
  intro i hi hj
  simp -implicitDefEqProofs
  refine ⟨fun h1 => ?_, fun h1 => by rw [hj, List.drop_of_length_le h1]; simp [ckRows]⟩
  rw [List.drop_eq_getElem_cons h1, ckRows] at hj
  simp -implicitDefEqProofs [h1]
  refine ⟨by kernel_rfl, callA_of (v31 _ (hs _ (List.getElem_mem h1))) ?_⟩
  have hw : IntKind.i64.wrap ((i : Int) + 1) = ((i + 1 : Nat) : Int) := step64 h1 (by omega)
  have ok : callOK Tryz.prog 37 = true := by kernel_rfl
  rcases i with _ | j
  · simp -implicitDefEqProofs [h1]
    refine ⟨fun a => by simp [hj, a], fun a => ⟨1, ⟨by omega, by omega⟩, ?_, hw⟩⟩
    rw [hj]; simp [a, beh, pv, h1]
  · have hb : IntKind.i64.wrap (j : Int) = j := w64 (by omega)
    have hl : j < x.length := by omega
    simp -implicitDefEqProofs [h1, hb, hl]
    refine ⟨fun a => by simp [hj, a], fun a => ⟨ok, callA_of (v37 _) ?_⟩⟩
    simp -implicitDefEqProofs [h1, hb, hl]
    refine ⟨ok, callA_of (v37 _) ?_⟩
    simp -implicitDefEqProofs [h1, hb, hl]
    refine ⟨fun d => ?_, fun d e => ⟨j + 1 + 1, ⟨by omega, by omega⟩, ?_, by simpa using hw⟩⟩
    · rw [hj]; simp [a, beh, pv, hl, leS]
      exact fun e1 e2 => absurd d (by simp [e1, e2])
    · rw [hj]; simp [a, beh, pv, hl, h1, leS, d, e]
theorem v11 (x : List Nd) (hx : x.length < 2 ^ 40) (hs : ∀ a ∈ x, a.fine) : V Tryz.prog 11 [.sl 5 (x.map Nd.av)] (.ret (.int .i64 (checkNodes x))) := by
  refine V_of p11 (by simp) (by simp) rfl ?_
  unfold c11
  simp -implicitDefEqProofs
  refine callA_of (v36 x hx hs) ?_
  simp -implicitDefEqProofs
end Go.Proofs.YtmgoencdjkaobaaGreatDoor
