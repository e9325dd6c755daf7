/- qty.Try: what it does is done; an error with which it is broken off is told. -/
import Derived.Test.YtmgoencdjkaobaaGreatDoorPeK
import Derived.Test.YtmgoencdjkaobaaGreatDoorChecked
import Derived.WalkKit
import Derived.Defers
import Derived.Recover
set_option linter.unusedVariables false
set_option linter.unusedSimpArgs false
namespace Go.Proofs.Co
open Go Go.Pe Go.RowKit
theorem eqNil (w : World) : (binOp BinOp.eql 20 .nilIface .nilIface).run Tryz.prog w = .ok (.bool true) w := by kernel_rfl
theorem eqNot (t : TypeId) (v : Value) (w : World) : (binOp BinOp.eql 20 (.iface t v) .nilIface).run Tryz.prog w = .ok (.bool false) w := by
  have q1 : ∀ d u v, (Op.equalIn (d + 1) 20 (.iface u v) .nilIface).run Tryz.prog w = .ok false w := fun d u v => by simp [Op.equalIn, run_underlying Tryz.underlying20]
  have p1 : ∀ u v, (Op.equal 20 (.iface u v) .nilIface).run Tryz.prog w = .ok false w := q1 9999
  simp [binOp, p1]
theorem tasOK (v : Value) (w : World) : (Instr.typeAssert (.iface 186 v) 20 186 true).run Tryz.prog w = .ok (.tuple #[v, .bool true]) w := by
  simp [Instr.typeAssert, go_sem]
theorem catch_idle (p : Addr) (w : World) : CallsD Tryz.prog 117 #[.pointer (some p)] .returning w fun e u' w' => e = .returned (.tuple #[]) ∧ u' = .returning ∧ w' = w := by
  refine callsD_of_wpS Tryz.func117 rfl fun c₀ cs hu => ?_
  apply wpS_seq
  apply wpS_region
  simp [wpOpsS, go_sem, recoverD, hu, Tryz.ntmps117, Exit.thenS]
  refine wpS_of_wp (wp_block (wp_seq (wp_region ?_)))
  simp [wpOps, Oper.wp, go_sem, eqNil]
  left
  refine wp_cond_true (by simp [Act.eval]) (wp_region ?_)
  simp [wpOps, Oper.wp, go_sem]
  left
  cases c₀
  simp_all [bodyPostS, results, Tryz.results117, Exit.inBlock]
set_option maxRecDepth 20000 in
theorem catch_stop (b : Nat) (v n : Int) (w : World) (hb : w.heap[b]? = some (.cells #[.int .i64 v] 35 (0, 0))) :
    CallsD Tryz.prog 117 #[.pointer (some ⟨b, 0, none⟩)] (.panicking [{ v := .iface 186 (.agg #[.int .i64 n]), recovered := false }]) w fun e u' w' => e = .returned (.tuple #[]) ∧
      u' = .panicking [{ v := .iface 186 (.agg #[.int .i64 n]), recovered := true }] ∧ w' = ((w.alloc (.cells #[.int .i64 n] 186)).setCell ⟨b, 0, none⟩ (.int .i64 n)) := by
  refine callsD_of_wpS Tryz.func117 rfl fun c₀ cs hu => ?_
  apply wpS_seq
  apply wpS_region
  simp [wpOpsS, go_sem, recoverD, hu, Tryz.ntmps117, Exit.thenS]
  refine wpS_of_wp (wp_block (wp_seq (wp_region ?_)))
  simp [wpOps, Oper.wp, go_sem, eqNot]
  left
  refine wp_cond_false (by simp [Act.eval]) ?_
  refine wp_seq (wp_region ?_)
  simp [wpOps, Oper.wp, go_sem, tasOK]
  left; left; left
  refine wp_cond_true (by simp [Act.eval]) (wp_seq (wp_region ?_))
  simp [wpOps, Oper.wp, go_sem]
  left; left
  refine wp_region ?_
  have hlt : b < w.heap.size := (Array.getElem?_eq_some_iff.1 hb).1
  have h1 : (w.alloc (.cells #[.int .i64 n] 186)).heap[b]? = some (.cells #[.int .i64 v] 35 (0, 0)) := by
    show (w.heap.push _)[b]? = _
    rw [Array.getElem?_push_lt hlt]; rw [Array.getElem?_eq_getElem hlt] at hb; exact hb
  have h2 : (w.alloc (.cells #[.int .i64 n] 186)).heap[w.heap.size]? = some (.cells #[.int .i64 n] 186 (0, 0)) := World.alloc_heap_new w _
  have h3 : (w.alloc (.cells #[.int .i64 n] 186)).cell? ⟨b, 0, none⟩ = some (.int .i64 v) := by simp [World.cell?, h1]
  have h4 : (w.alloc (.cells #[.int .i64 n] 186)).frozen? ⟨b, 0, none⟩ = false := by simp [World.frozen?, h1]
  simp [wpOps, Oper.wp, go_sem, h2, h3, h4]
  left; left; left
  cases c₀
  simp_all [bodyPostS, results, Tryz.results117, Exit.inBlock]

section
variable [G : Glob] [Top]
theorem tryH {g : FuncId} {cap : List AV} {h : List AObj} {R : Out → List AObj → Prop} (hg : callOK Tryz.prog g = true)
    (k : VH Tryz.prog g cap h fun o h' => match o with
      | .ret _ => R (.ret (.int .i64 0)) h'
      | .pan v => ∃ n, v = .iface 186 (.agg [.int .i64 n]) ∧ R (.ret (.int .i64 n)) h') : VH Tryz.prog 71 [.fn g cap] h R := by
  intro X w bs vs hh hl
  obtain ⟨l1, l2⟩ := hl
  obtain ⟨fv, rfl⟩ : ∃ fv, vs = [fv] := by
    match vs, l1 with
    | [fv], _ => exact ⟨fv, rfl⟩
  have hf := l2 0 _ _ rfl rfl
  cases hf with
  | fn _ _ cs hcl hcr =>
  obtain ⟨hhN, fN, repN⟩ := hh.hideNew (.cells #[.int .i64 0] 35)
  have hX0 := hh.none
  have hgn := hh.gl.size
  obtain ⟨w1, hw1⟩ : ∃ w1, w.alloc (.cells #[.int .i64 0] 35) = w1 := ⟨_, rfl⟩
  rw [hw1] at hhN fN repN
  have hsz1 : w1.heap.size = w.heap.size + 1 := by rw [← hw1]; simp
  have hD1 : w1.heap[w.heap.size]? = some (.cells #[.int .i64 0] 35 (0, 0)) := by rw [← hw1]; exact World.alloc_heap_new w _
  have hDbs : some w.heap.size ∉ bs := fun hm => by have := hh.lt hm; omega
  have hcall := k ⟨fun b => X.own b ∨ b = w.heap.size, 0, .none⟩ w1 bs cs.toList hhN ⟨by simpa using hcl, fun j x v e1 e2 => repN x v (hcr j x v e1 (by simpa using e2))⟩
  refine calls_of_wp_defers Tryz.func71 rfl ?_
  refine wp_seq (wp_region ?_)
  simp [wpOps, Oper.wp, go_sem, Tryz.ntmps71, hw1]
  left
  have hmf : ∀ (fn : Fn) (first cap : Array Value) (w : World), (Instr.makeFunc fn first cap).run Tryz.prog w = .ok (.func fn first cap) w := fun _ _ _ _ => rfl
  refine wp_seq (wp_region ?_)
  simp [wpOps, Oper.wp, go_sem, hmf]
  left; left
  refine wp_seq (wp_region ?_)
  simp [wpOps, Oper.wp, go_sem, run_callFunc hg]
  left; left
  have hset : ∀ (u : World) (c z : Value), u.heap[w.heap.size]? = some (.cells #[c] 35 (0, 0)) → (u.setCell ⟨w.heap.size, 0, none⟩ z).heap[w.heap.size]? = some (.cells #[z] 35 (0, 0)) := by
    intro u c z hu
    have := (Array.getElem?_eq_some_iff.1 hu).1
    simp [World.setCell, Array.getElem?_modify, hu]
  refine Calls.mono (by simpa using hcall) ?_
  rintro e w' ⟨h', bs', v, x, w2, hh2, f2, hv2, (⟨rfl, rfl, q⟩ | ⟨rfl, hpk, n, rfl, q⟩)⟩
  · have hD2 : w'.heap[w.heap.size]? = some (.cells #[.int .i64 0] 35 (0, 0)) := (f2.far _ (by omega) hDbs).trans hD1
    have hc : w'.cell? ⟨w.heap.size, 0, none⟩ = some (.int .i64 0) := by simp [World.cell?, hD2]
    have hf : w'.frozen? ⟨w.heap.size, 0, none⟩ = false := by simp [World.frozen?, hD2]
    have hD3 := hset w' _ (.int .i64 0) hD2
    have hc3 : (w'.setCell ⟨w.heap.size, 0, none⟩ (.int .i64 0)).cell? ⟨w.heap.size, 0, none⟩ = some (.int .i64 0) := by simp [World.cell?, hD3]
    obtain ⟨p1, p2⟩ := HeapRel.showNew hX0 hh2 (Chg.setCell w' w.heap.size (.int .i64 0)) hgn
    have p3 := (fN.trans f2).chg (Chg.setCell w' w.heap.size (.int .i64 0)) (Nat.le_refl _)
    refine wp_seq (wp_region ?_)
    simp [wpOps, Oper.wp, go_sem, hc, hf]
    left
    refine wp_ret ?_
    refine leaves_cons (f := 117) (args := #[.pointer (some ⟨w.heap.size, 0, none⟩)]) (by simp) (by simp [go_sem]) ?_
    refine (catch_idle ⟨w.heap.size, 0, none⟩ _).mono ?_
    rintro e u' w'' ⟨rfl, rfl, rfl⟩
    simp [Leaves, settle, results, Tryz.results71, go_sem, hc3]
    exact ⟨h', bs', .int .i64 0, _, _, p1, p3, .int _ _, .inl ⟨rfl, rfl, q⟩⟩
  · have hpk := hpk.eq Top.top.1
    subst hpk
    have hx : x = .iface 186 (.agg #[.int .i64 n]) := by
      cases hv2 with
      | iface _ _ y hy =>
        cases hy with
        | agg _ cs2 hl2 hr2 =>
          have h0 : cs2.size = 1 := hl2
          obtain ⟨c0, hc0⟩ : ∃ c0, cs2 = #[c0] := by
            match cs2, h0 with
            | ⟨[c0]⟩, _ => exact ⟨c0, rfl⟩
          subst hc0
          have := hr2 0 (.int .i64 n) c0 rfl rfl
          cases this; rfl
    subst hx
    have hD2 : w'.heap[w.heap.size]? = some (.cells #[.int .i64 0] 35 (0, 0)) := (f2.far _ (by omega) hDbs).trans hD1
    refine leaves_cons (f := 117) (args := #[.pointer (some ⟨w.heap.size, 0, none⟩)]) (by simp) (by simp [go_sem]) ?_
    refine (catch_stop w.heap.size 0 n _ hD2).mono ?_
    rintro e u' w'' ⟨rfl, rfl, rfl⟩
    have fA : Fr w' h' bs' (w'.alloc (.cells #[.int .i64 n] 186)) h' bs' := Fr.of_below (below_alloc w' _) h' bs'
    have hhA := hh2.below fA fun b hb => (below_alloc w' _).block b hb
    have hDA : (w'.alloc (.cells #[.int .i64 n] 186)).heap[w.heap.size]? = some (.cells #[.int .i64 0] 35 (0, 0)) := ((below_alloc w' _).block _ (Array.getElem?_eq_some_iff.1 hD2).1).trans hD2
    have hD3 := hset _ _ (.int .i64 n) hDA
    have hc3 : ((w'.alloc (.cells #[.int .i64 n] 186)).setCell ⟨w.heap.size, 0, none⟩ (.int .i64 n)).cell? ⟨w.heap.size, 0, none⟩ = some (.int .i64 n) := by simp [World.cell?, hD3]
    obtain ⟨p1, p2⟩ := HeapRel.showNew hX0 hhA (Chg.setCell _ w.heap.size (.int .i64 n)) hgn
    have p3 := ((fN.trans f2).trans fA).chg (Chg.setCell _ w.heap.size (.int .i64 n)) (Nat.le_refl _)
    simp [Leaves, settle, results, Tryz.results71, go_sem, hc3]
    exact ⟨h', bs', .int .i64 n, _, _, p1, p3, .int _ _, .inl ⟨rfl, rfl, q⟩⟩
end
end Go.Proofs.Co
