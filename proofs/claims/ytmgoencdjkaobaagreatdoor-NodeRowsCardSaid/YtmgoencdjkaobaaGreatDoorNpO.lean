/- Arguments of the seat's types, as they are handed over, are values of the calculus. The conditions stand in each. -/
import Derived.Test.YtmgoencdjkaobaaGreatDoorPeO
import Derived.Test.YtmgoencdjkaobaaGreatDoorChecked
import Derived.KernelRfl
set_option linter.unusedVariables false
set_option linter.unusedSimpArgs false
namespace Go.Proofs.YtmgoencdjkaobaaGreatDoor
open Go Go.Pe
theorem takes_one {cs : List Value} {i : Nat} {v : Value} (h : (cs.drop i).take 1 = [v]) : cs[i]? = some v := by
  have := congrArg (·[0]?) h
  simpa [List.getElem?_take, List.getElem?_drop] using this
section
variable {H : Type} {enc : TypeId × Value → H} {w : World} {sp : Nat → Bool} {held : Bool} {m : Nat} {cs : List Value} {x : DataW H × List MemPlace}
theorem o_amt (h : DataW.trod enc Tryz.prog w 0 sp held m 51 cs = some x) : ∃ a : Amt, CellsAs w a.av.cells cs ∧ (-9223372036854775808 ≤ a.n ∧ a.n ≤ 9223372036854775807) := by
  obtain ⟨h1, h2⟩ := struct_of_trod Tryz.underlying51 (by intro i f h; rcases i with _ | _ | i <;> simp at h <;> subst h <;> exact ⟨rfl, by kernel_rfl⟩) h
  have hl : cs.length = 2 := h1.trans (by kernel_rfl)
  obtain ⟨k0, y0, e0⟩ := h2 0 _ rfl
  obtain ⟨a0, v0, c0, r0, q0⟩ := str_of_trod Tryz.underlying9 e0
  obtain ⟨k1, y1, e1⟩ := h2 1 _ rfl
  obtain ⟨a1, v1, c1, r1, q1⟩ := int_of_trod Tryz.underlying2 e1
  refine ⟨⟨a0, a1⟩, ⟨by rw [hl]; simp, fun k y hk => ?_⟩, by simpa [Lit.wf, IntKind.min, IntKind.max, IntKind.signed, IntKind.bits] using q1⟩
  rcases k with _ | _ | k <;> simp at hk
  · subst hk; exact ⟨v0, takes_one c0, r0⟩
  · subst hk; exact ⟨v1, takes_one c1, r1⟩
theorem o_pair (h : DataW.trod enc Tryz.prog w 0 sp held m 121 cs = some x) : ∃ a : Pair, CellsAs w a.av.cells cs ∧ True := by
  obtain ⟨h1, h2⟩ := struct_of_trod Tryz.underlying121 (by intro i f h; rcases i with _ | _ | i <;> simp at h <;> subst h <;> exact ⟨rfl, by kernel_rfl⟩) h
  have hl : cs.length = 2 := h1.trans (by kernel_rfl)
  obtain ⟨k0, y0, e0⟩ := h2 0 _ rfl
  obtain ⟨a0, v0, c0, r0, q0⟩ := str_of_trod Tryz.underlying9 e0
  obtain ⟨k1, y1, e1⟩ := h2 1 _ rfl
  obtain ⟨a1, v1, c1, r1, q1⟩ := str_of_trod Tryz.underlying9 e1
  refine ⟨⟨a0, a1⟩, ⟨by rw [hl]; simp, fun k y hk => ?_⟩, trivial⟩
  rcases k with _ | _ | k <;> simp at hk
  · subst hk; exact ⟨v0, takes_one c0, r0⟩
  · subst hk; exact ⟨v1, takes_one c1, r1⟩
theorem o_taint (h : DataW.trod enc Tryz.prog w 0 sp held m 143 cs = some x) : ∃ a : Taint, CellsAs w a.av.cells cs ∧ True := by
  obtain ⟨h1, h2⟩ := struct_of_trod Tryz.underlying143 (by intro i f h; rcases i with _ | _ | _ | i <;> simp at h <;> subst h <;> exact ⟨rfl, by kernel_rfl⟩) h
  have hl : cs.length = 3 := h1.trans (by kernel_rfl)
  obtain ⟨k0, y0, e0⟩ := h2 0 _ rfl
  obtain ⟨a0, v0, c0, r0, q0⟩ := str_of_trod Tryz.underlying9 e0
  obtain ⟨k1, y1, e1⟩ := h2 1 _ rfl
  obtain ⟨a1, v1, c1, r1, q1⟩ := str_of_trod Tryz.underlying9 e1
  obtain ⟨k2, y2, e2⟩ := h2 2 _ rfl
  obtain ⟨a2, v2, c2, r2⟩ := bool_of_trod Tryz.underlying4 e2
  refine ⟨⟨a0, a1, a2⟩, ⟨by rw [hl]; simp, fun k y hk => ?_⟩, trivial⟩
  rcases k with _ | _ | _ | k <;> simp at hk
  · subst hk; exact ⟨v0, takes_one c0, r0⟩
  · subst hk; exact ⟨v1, takes_one c1, r1⟩
  · subst hk; exact ⟨v2, takes_one c2, r2⟩
theorem o_node (h : DataW.trod enc Tryz.prog w 0 sp held m 31 cs = some x) : ∃ a : Nd, CellsAs w a.av.cells cs ∧ ∀ c ∈ a.cap, -9223372036854775808 ≤ c.n ∧ c.n ≤ 9223372036854775807 := by
  obtain ⟨h1, h2⟩ := struct_of_trod Tryz.underlying31 (by intro i f h; rcases i with _ | _ | _ | _ | _ | i <;> simp at h <;> subst h <;> exact ⟨rfl, by kernel_rfl⟩) h
  have hl : cs.length = 5 := h1.trans (by kernel_rfl)
  obtain ⟨k0, y0, e0⟩ := h2 0 _ rfl
  obtain ⟨a0, v0, c0, r0, q0⟩ := str_of_trod Tryz.underlying9 e0
  obtain ⟨k1, y1, e1⟩ := h2 1 _ rfl
  obtain ⟨a1, v1, c1, r1, q1, g1⟩ := sl_of_trod (f := Amt.av) Tryz.underlying26 (by kernel_rfl) (by decide : 0 < 2) (fun a => ⟨by simp, by simp, by simp⟩) (fun _ _ _ h => o_amt h) e1
  obtain ⟨k2, y2, e2⟩ := h2 2 _ rfl
  obtain ⟨a2, v2, c2, r2, q2, g2⟩ := sl_of_trod (f := Pair.av) Tryz.underlying28 (by kernel_rfl) (by decide : 0 < 2) (fun a => ⟨by simp, by simp, by simp⟩) (fun _ _ _ h => o_pair h) e2
  obtain ⟨k3, y3, e3⟩ := h2 3 _ rfl
  obtain ⟨a3, v3, c3, r3, q3, g3⟩ := sl_of_trod (f := Taint.av) Tryz.underlying29 (by kernel_rfl) (by decide : 0 < 3) (fun a => ⟨by simp, by simp, by simp⟩) (fun _ _ _ h => o_taint h) e3
  obtain ⟨k4, y4, e4⟩ := h2 4 _ rfl
  obtain ⟨a4, v4, c4, r4⟩ := bool_of_trod Tryz.underlying4 e4
  refine ⟨⟨a0, a1, a2, a3, a4⟩, ⟨by rw [hl]; simp, fun k y hk => ?_⟩, g1⟩
  rcases k with _ | _ | _ | _ | _ | k <;> simp at hk
  · subst hk; exact ⟨v0, takes_one c0, r0⟩
  · subst hk; exact ⟨v1, takes_one c1, r1⟩
  · subst hk; exact ⟨v2, takes_one c2, r2⟩
  · subst hk; exact ⟨v3, takes_one c3, r3⟩
  · subst hk; exact ⟨v4, takes_one c4, r4⟩
end
end Go.Proofs.YtmgoencdjkaobaaGreatDoor
