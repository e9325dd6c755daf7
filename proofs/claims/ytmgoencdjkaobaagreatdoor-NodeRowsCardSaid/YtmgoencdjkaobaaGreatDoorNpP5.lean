/- Contracts: what is written of amounts, pairs, taints, a node. The conditions stand in each. -/
import Derived.Test.YtmgoencdjkaobaaGreatDoorNpP4
set_option linter.unusedVariables false
set_option linter.unusedSimpArgs false
namespace Go.Proofs.YtmgoencdjkaobaaGreatDoor
open Go Go.Pe
attribute [local irreducible] Aw
theorem v63 (x : List Amt) (hx : x.length < 2 ^ 40) (hr : ∀ a ∈ x, -9223372036854775808 ≤ a.n ∧ a.n ≤ 9223372036854775807) (hj : (Lib.join (x.map amtT) [44]).length < 2 ^ 47) : V Tryz.prog 63 [.sl 2 (x.map Amt.av)] (.ret (.str (joinS (x.map amtT)))) := by
  refine V_of p63 (by simp) (by simp) rfl ?_
  unfold c63
  simp -implicitDefEqProofs
  refine ⟨fun h => by simp [joinS, h], fun h => ?_⟩
  refine aw_indexD (σ := Unit) x.length (fun i _ => True) (fun i _ => [(3, .osl 0 i 0 i), (9, .sl 2 (x.map Amt.av)), (10, .int .i64 x.length), (11, .int .i64 i)]) (fun i _ => [⟨i, 1, 9, true, ((x.map amtT).take i).map AV.str⟩]) () ?_ trivial (by simp [AV.refs, refsL]) ?_
  · have := Le.ghost (nt := 28) (b := 0) (tm := [(3, .nils), (9, AV.sl 2 (x.map Amt.av)), (10, .int .i64 x.length), (11, .int .i64 0)]) (h := []) 3 1 9 (by simp)
    simpa [setT] using this
  intro i _ hi _
  simp -implicitDefEqProofs
  refine ⟨fun h1 => ?_, fun h1 => ?_⟩
  · simp -implicitDefEqProofs [h1]
    have hr1 := hr _ (List.getElem_mem h1)
    have hl1 := amtT_len hj (List.getElem_mem h1)
    refine ⟨by omega, callA_of (v_itoa _ hr1.1 hr1.2) ?_⟩
    simp -implicitDefEqProofs [h1]
    refine ⟨by omega, ⟨by omega, by omega⟩, i + 1, ⟨by omega, by omega⟩, ⟨rfl, step64 h1 (by omega)⟩, rfl, ?_⟩
    rw [List.take_add_one]; simp [h1, amtT]
  · have : i = x.length := by omega
    subst this
    refine callF_of (v_join (x.map amtT) [44] (by simpa using hx) hj) (by simp [List.take_of_length_le]) (by simp) rfl ?_
    simp -implicitDefEqProofs [joinS, h]
theorem v110 (g : FuncId) (f : Pair → Str) (x : List Pair) (hx : x.length < 2 ^ 40) (hg : callOK Tryz.prog g = true) (h1 : ∀ a ∈ x, V Tryz.prog g [a.av] (.ret (.str (f a)))) (hj : (Lib.join (x.map f) [44]).length < 2 ^ 47) : V Tryz.prog 110 [.sl 2 (x.map Pair.av), .fn g []] (.ret (.str (joinS (x.map f)))) := by
  refine V_of p110 (by simp) (by simp) rfl ?_
  unfold c110
  simp -implicitDefEqProofs
  refine ⟨fun h => by simp [joinS, h], fun h => ?_⟩
  refine aw_indexD (σ := Unit) x.length (fun i _ => True) (fun i _ => [(1, .fn g []), (5, .osl 0 i 0 i), (11, .sl 2 (x.map Pair.av)), (12, .int .i64 x.length), (13, .int .i64 i)]) (fun i _ => [⟨i, 1, 9, true, ((x.map f).take i).map AV.str⟩]) () ?_ trivial (by simp [AV.refs, refsL]) ?_
  · have := Le.ghost (nt := 26) (b := 0) (tm := [(1, .fn g []), (5, .nils), (11, AV.sl 2 (x.map Pair.av)), (12, .int .i64 x.length), (13, .int .i64 0)]) (h := []) 5 1 9 (by simp)
    simpa [setT] using this
  intro i _ hi _
  simp -implicitDefEqProofs
  refine ⟨fun h2 => ?_, fun h2 => ?_⟩
  · simp -implicitDefEqProofs [h2]
    refine ⟨hg, callA_of (h1 x[i] (List.getElem_mem h2)) ?_⟩
    simp -implicitDefEqProofs [h2]
    refine ⟨⟨by omega, by omega⟩, i + 1, ⟨by omega, by omega⟩, ⟨rfl, step64 h2 (by omega)⟩, rfl, ?_⟩
    rw [List.take_add_one]; simp [h2]
  · have : i = x.length := by omega
    subst this
    refine callF_of (v_join (x.map f) [44] (by simpa using hx) hj) (by simp [List.take_of_length_le]) (by simp) rfl ?_
    simp -implicitDefEqProofs [joinS, h]
theorem v129 (g : FuncId) (f : Taint → Str) (x : List Taint) (hx : x.length < 2 ^ 40) (hg : callOK Tryz.prog g = true) (h1 : ∀ a ∈ x, V Tryz.prog g [a.av] (.ret (.str (f a)))) (hj : (Lib.join (x.map f) [44]).length < 2 ^ 47) : V Tryz.prog 129 [.sl 3 (x.map Taint.av), .fn g []] (.ret (.str (joinS (x.map f)))) := by
  refine V_of p129 (by simp) (by simp) rfl ?_
  unfold c129
  simp -implicitDefEqProofs
  refine ⟨fun h => by simp [joinS, h], fun h => ?_⟩
  refine aw_indexD (σ := Unit) x.length (fun i _ => True) (fun i _ => [(1, .fn g []), (5, .osl 0 i 0 i), (11, .sl 3 (x.map Taint.av)), (12, .int .i64 x.length), (13, .int .i64 i)]) (fun i _ => [⟨i, 1, 9, true, ((x.map f).take i).map AV.str⟩]) () ?_ trivial (by simp [AV.refs, refsL]) ?_
  · have := Le.ghost (nt := 26) (b := 0) (tm := [(1, .fn g []), (5, .nils), (11, AV.sl 3 (x.map Taint.av)), (12, .int .i64 x.length), (13, .int .i64 0)]) (h := []) 5 1 9 (by simp)
    simpa [setT] using this
  intro i _ hi _
  simp -implicitDefEqProofs
  refine ⟨fun h2 => ?_, fun h2 => ?_⟩
  · simp -implicitDefEqProofs [h2]
    refine ⟨hg, callA_of (h1 x[i] (List.getElem_mem h2)) ?_⟩
    simp -implicitDefEqProofs [h2]
    refine ⟨⟨by omega, by omega⟩, i + 1, ⟨by omega, by omega⟩, ⟨rfl, step64 h2 (by omega)⟩, rfl, ?_⟩
    rw [List.take_add_one]; simp [h2]
  · have : i = x.length := by omega
    subst this
    refine callF_of (v_join (x.map f) [44] (by simpa using hx) hj) (by simp [List.take_of_length_le]) (by simp) rfl ?_
    simp -implicitDefEqProofs [joinS, h]
theorem v111 (a : Pair) (h : a.k.length + 1 + a.v.length < 2 ^ 47) : V Tryz.prog 111 [a.av] (.ret (.str (pairT a))) := by
  refine V_of p111 (by simp) (by simp) rfl ?_
  unfold c111
  simp -implicitDefEqProofs [pairT]
  omega
theorem v130 (a : Taint) (h : a.k.length + 1 + a.v.length < 2 ^ 47) : V Tryz.prog 130 [a.av] (.ret (.str (taintT a))) := by
  refine V_of p130 (by simp) (by simp) rfl ?_
  unfold c130
  simp -implicitDefEqProofs [taintT]
  exact ⟨fun e => ⟨by omega, by omega, by omega, e⟩, fun e => ⟨by omega, by omega, e⟩⟩
theorem v64 (x : List Pair) (hx : x.length < 2 ^ 40) (hj : (Lib.join (x.map pairT) [44]).length < 2 ^ 47) : V Tryz.prog 64 [.sl 2 (x.map Pair.av)] (.ret (.str (joinS (x.map pairT)))) := by
  refine V_of p64 (by simp) (by simp) rfl ?_
  unfold c64
  simp -implicitDefEqProofs
  refine callA_of (v110 111 pairT x hx (by kernel_rfl) (fun a ha => v111 a (pairT_len hj ha)) hj) ?_
  simp -implicitDefEqProofs
theorem v81 (x : List Taint) (hx : x.length < 2 ^ 40) (hj : (Lib.join (x.map taintT) [44]).length < 2 ^ 47) : V Tryz.prog 81 [.sl 3 (x.map Taint.av)] (.ret (.str (joinS (x.map taintT)))) := by
  refine V_of p81 (by simp) (by simp) rfl ?_
  unfold c81
  simp -implicitDefEqProofs
  refine callA_of (v129 130 taintT x hx (by kernel_rfl) (fun a ha => v130 a (taintT_len hj ha)) hj) ?_
  simp -implicitDefEqProofs
/-- What must be so for a node to be written. -/
structure _root_.Go.Pe.Nd.short (n : Nd) : Prop where
  ok : n.ok
  cap : (Lib.join (n.cap.map amtT) [44]).length < 2 ^ 40
  range : ∀ a ∈ n.cap, -9223372036854775808 ≤ a.n ∧ a.n ≤ 9223372036854775807
  labels : (Lib.join (n.labels.map pairT) [44]).length < 2 ^ 40
  taints : (Lib.join (n.taints.map taintT) [44]).length < 2 ^ 40
  name : n.name.length < 2 ^ 40
theorem v29 (n : Nd) (hn : n.short) : V Tryz.prog 29 [n.av] (.ret (.str (nodeT n))) := by
  have h1 := hn.cap; have h2 := hn.labels; have h3 := hn.taints; have h4 := hn.name
  have j1 := joinS_len (n.cap.map amtT); have j2 := joinS_len (n.labels.map pairT); have j3 := joinS_len (n.taints.map taintT)
  refine V_of p29 (by simp) (by simp) rfl ?_
  unfold c29
  cases hc : n.cordon
  · simp only [Nd.av, hc]
    simp -implicitDefEqProofs
    refine callA_of (v63 _ hn.ok.cap hn.range (by omega)) ?_
    simp -implicitDefEqProofs
    refine callA_of (v64 _ hn.ok.labels (by omega)) ?_
    simp -implicitDefEqProofs
    refine callA_of (v81 _ hn.ok.taints (by omega)) ?_
    simp -implicitDefEqProofs
    refine callA_of (v_join [n.name, joinS (n.cap.map amtT), joinS (n.labels.map pairT), joinS (n.taints.map taintT), upS] [32] (by simp) ?_) ?_
    · simp [Lib.join_cons, Lib.joinTail, upS]; omega
    simp -implicitDefEqProofs [nodeT, hc]
  · simp only [Nd.av, hc]
    simp -implicitDefEqProofs
    refine callA_of (v63 _ hn.ok.cap hn.range (by omega)) ?_
    simp -implicitDefEqProofs
    refine callA_of (v64 _ hn.ok.labels (by omega)) ?_
    simp -implicitDefEqProofs
    refine callA_of (v81 _ hn.ok.taints (by omega)) ?_
    simp -implicitDefEqProofs
    refine callA_of (v_join [n.name, joinS (n.cap.map amtT), joinS (n.labels.map pairT), joinS (n.taints.map taintT), cordonS] [32] (by simp) ?_) ?_
    · simp [Lib.join_cons, Lib.joinTail, cordonS]; omega
    simp -implicitDefEqProofs [nodeT, hc]
end Go.Proofs.YtmgoencdjkaobaaGreatDoor
