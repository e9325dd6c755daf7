/- Code in whatever frame of the program's own (a function's, or a round's of a loop over a function): the rules. No program in sight; no conditions. -/
import Derived.Scope
import Derived.Orders
import Derived.OrdersIn
import Derived.RangeFuncLeaves
import Derived.RangeFuncRecord
set_option linter.unusedVariables false
namespace Go.Pe

/-- Code anywhere: in a function's frame, or in a round's of a loop over a function. -/
def anyR (ro : Option Nat) : Fence := { Fence.wide with round := ro }
theorem room_anyR (ro : Option Nat) (n : Nat) : (anyR ro).room n := fun _ h => by simp [anyR, Fence.wide] at h
abbrev Tr : Machine → Prop := fun _ => True
def wpR (ro : Option Nat) (P : Program) (c : Code) (Q : Exit → Act → World → Prop) (a : Act) (w : World) : Prop :=
  ∀ (b : Frame) (k : List Item) (cs : List Frame), b.roundOf = ro → (∃ fn, P.funcs[b.fn]? = some fn) → ∃ e a' w', Q e a' w' ∧ ArrivesIn Tr P (lone (b.atR a (.code c :: k)) cs w) b k cs e a' w'
theorem arrives_tr {I : Machine → Prop} {P : Program} {m : Machine} {b : Frame} {k : List Item} {cs : List Frame} {e : Exit} {a : Act} {w : World} (h : ArrivesIn I P m b k cs e a w) : ArrivesIn Tr P m b k cs e a w := by
  have hs : ∀ {m m' : Machine}, StepsIn I P m m' → StepsIn Tr P m m' := fun h => h.mono fun _ _ => trivial
  cases e with
  | normal => exact hs h
  | exit id => exact ⟨fun k' hk => hs (h.1 k' hk), fun hr hk => let ⟨k₁, h1, h2⟩ := h.2 hr hk; ⟨k₁, h1, hs h2⟩⟩
  | goto l => exact ⟨fun k' hk => hs (h.1 k' hk), fun hr hk => let ⟨k₁, h1, h2⟩ := h.2 hr hk; ⟨k₁, h1, hs h2⟩⟩
  | ret => exact ⟨fun hr => let ⟨t, h1⟩ := h.1 hr; ⟨t, hs h1⟩, fun hr => let ⟨k₁, h1⟩ := h.2 hr; ⟨k₁, hs h1⟩⟩
  | panic ch => obtain ⟨t, h1⟩ := h; exact ⟨t, hs h1⟩
  | outgrown => exact h
section
variable {ro : Option Nat} {P : Program} {Q : Exit → Act → World → Prop} {a : Act} {w : World}
theorem wpR_of_in {c : Code} (h : c.wpIn (anyR ro) 0 P Q a w) : wpR ro P c Q a w :=
  fun b k cs hro _ => let ⟨e, a', w', q, r⟩ := h b k cs hro trivial (room_anyR ro _); ⟨e, a', w', q, arrives_tr r⟩
theorem wpR_mono {c : Code} {Q' : Exit → Act → World → Prop} (h : wpR ro P c Q a w) (hq : ∀ e a w, Q e a w → Q' e a w) : wpR ro P c Q' a w :=
  fun b k cs hro hb => let ⟨e, a', w', q, r⟩ := h b k cs hro hb; ⟨e, a', w', hq _ _ _ q, r⟩
theorem wpR_skip (h : Q .normal a w) : wpR ro P .skip Q a w := wpR_of_in (wpIn_skip h)
theorem wpR_label {l : Nat} (h : Q .normal a w) : wpR ro P (.label l) Q a w := wpR_of_in (wpIn_label h)
theorem wpR_exit {id : Nat} (h : Q (.exit id) a w) : wpR ro P (.exit id) Q a w := wpR_of_in (wpIn_exit h)
theorem wpR_ret (h : Q .ret a w) : wpR ro P .ret Q a w := wpR_of_in (wpIn_ret h)
theorem wpR_seq {x y : Code} (h : wpR ro P x (Exit.then (wpR ro P y Q) Q) a w) : wpR ro P (.seq x y) Q a w := by
  intro b k cs hro hb
  obtain ⟨e, a₁, w₁, hq, harr⟩ := h b (.code y :: k) cs hro hb
  cases e with
  | normal =>
    obtain ⟨e₂, a₂, w₂, hq₂, harr₂⟩ := hq b k cs hro hb
    exact ⟨e₂, a₂, w₂, hq₂, .of_steps (.head trivial stepR_seq harr) harr₂⟩
  | exit id => exact ⟨_, a₁, w₁, hq, .of_steps (.one trivial stepR_seq) (.pass (x := .code y) rfl (fun _ _ => .inl (by simp)) harr)⟩
  | goto l => exact ⟨_, a₁, w₁, hq, .of_steps (.one trivial stepR_seq) (.pass (x := .code y) rfl (fun _ _ => .inl (by simp)) harr)⟩
  | ret => exact ⟨_, a₁, w₁, hq, .of_steps (.one trivial stepR_seq) (.pass (x := .code y) rfl (fun _ _ => .inl (by simp)) harr)⟩
  | panic ch => exact ⟨_, a₁, w₁, hq, .of_steps (.one trivial stepR_seq) (.pass (x := .code y) rfl (fun _ _ => .inl (by simp)) harr)⟩
  | outgrown => exact ⟨_, a₁, w₁, hq, .of_steps (.one trivial stepR_seq) (.pass (x := .code y) rfl (fun _ _ => .inl (by simp)) harr)⟩
theorem wpR_cond {c : Operand} {x y : Code} {t : Bool} (hc : a.eval c = .bool t) (h : wpR ro P (if t then x else y) Q a w) : wpR ro P (.cond c x y) Q a w :=
  fun b k cs hro hb => let ⟨e, a', w', q, r⟩ := h b k cs hro hb; ⟨e, a', w', q, .of_steps (.one trivial (stepR_cond hc)) r⟩
theorem wpR_cond_true {c : Operand} {x y : Code} (hc : a.eval c = .bool true) (h : wpR ro P x Q a w) : wpR ro P (.cond c x y) Q a w := wpR_cond hc h
theorem wpR_cond_false {c : Operand} {x y : Code} (hc : a.eval c = .bool false) (h : wpR ro P y Q a w) : wpR ro P (.cond c x y) Q a w := wpR_cond hc h
theorem wpR_block {id : Nat} {c : Code} (h : wpR ro P c (Exit.inBlock id Q) a w) : wpR ro P (.block id c) Q a w := by
  intro b k cs hro hb
  obtain ⟨e, a₁, w₁, hq, harr⟩ := h b (.inBlock id :: k) cs hro hb
  cases e with
  | normal => exact ⟨.normal, a₁, w₁, hq, .head trivial stepR_block (StepsIn.trans harr (.one trivial stepR_inBlock))⟩
  | exit id' =>
    by_cases hid : id' = id
    · simp only [Exit.inBlock, hid, if_true] at hq
      exact ⟨.normal, a₁, w₁, hq, .head trivial stepR_block (harr.1 k (by simp [exitTo, hid]))⟩
    · simp only [Exit.inBlock, hid, if_false] at hq
      have this : (id == id') = false := by simp; exact fun h => hid h.symm
      have hx : exitTo id' (.inBlock id :: k) = exitTo id' k := by simp [exitTo, this]
      exact ⟨.exit id', a₁, w₁, hq, fun k' hk => .head trivial stepR_block (harr.1 k' (by rw [hx]; exact hk)),
        fun hr' hk => let ⟨k₁, h1, h2⟩ := harr.2 hr' (by rw [hx]; exact hk); ⟨k₁, h1, .head trivial stepR_block h2⟩⟩
  | goto l =>
    have hx : gotoIn l (.inBlock id :: k) = gotoIn l k := by simp [gotoIn]
    exact ⟨_, a₁, w₁, hq, fun k' hk => .head trivial stepR_block (harr.1 k' (by rw [hx]; exact hk)),
      fun hr' hk => let ⟨k₁, h1, h2⟩ := harr.2 hr' (by rw [hx]; exact hk); ⟨k₁, h1, .head trivial stepR_block h2⟩⟩
  | ret => exact ⟨_, a₁, w₁, hq, .of_steps (.one trivial stepR_block) harr⟩
  | panic ch => exact ⟨_, a₁, w₁, hq, .of_steps (.one trivial stepR_block) harr⟩
  | outgrown => exact ⟨_, a₁, w₁, hq, .of_steps (.one trivial stepR_block) harr⟩
theorem wpR_loop {c : Code} (I : Act → World → Prop) (μ : Act → World → Nat) (h₀ : I a w)
    (round : ∀ a w, I a w → wpR ro P c (Exit.then (fun a' w' => I a' w' ∧ μ a' w' < μ a w) Q) a w) : wpR ro P (.loop c) Q a w := by
  intro b k cs hro hb
  have key : ∀ j a w, μ a w = j → I a w →
      ∃ e a' w', Q e a' w' ∧ ArrivesIn Tr P (lone (b.atR a (.code c :: .inLoop c :: k)) cs w) b k cs e a' w' := by
    intro j
    induction j using Nat.strongRecOn with
    | _ j ih =>
      intro a w hn hI
      obtain ⟨e, a₁, w₁, hq, harr⟩ := round a w hI b (.inLoop c :: k) cs hro hb
      cases e with
      | normal =>
        obtain ⟨hI₁, hlt⟩ := hq
        obtain ⟨e₂, a₂, w₂, hq₂, harr₂⟩ := ih (μ a₁ w₁) (hn ▸ hlt) a₁ w₁ rfl hI₁
        exact ⟨e₂, a₂, w₂, hq₂, .of_steps (StepsIn.trans harr (.one trivial stepR_inLoop)) harr₂⟩
      | exit id => exact ⟨_, a₁, w₁, hq, .pass (x := .inLoop c) rfl (fun _ _ => .inl (by simp)) harr⟩
      | goto l => exact ⟨_, a₁, w₁, hq, .pass (x := .inLoop c) rfl (fun _ _ => .inl (by simp)) harr⟩
      | ret => exact ⟨_, a₁, w₁, hq, .pass (x := .inLoop c) rfl (fun _ _ => .inl (by simp)) harr⟩
      | panic ch => exact ⟨_, a₁, w₁, hq, .pass (x := .inLoop c) rfl (fun _ _ => .inl (by simp)) harr⟩
      | outgrown => exact ⟨_, a₁, w₁, hq, .pass (x := .inLoop c) rfl (fun _ _ => .inl (by simp)) harr⟩
  obtain ⟨e, a', w', hq, harr⟩ := key _ a w rfl h₀
  exact ⟨e, a', w', hq, .of_steps (.one trivial stepR_loop) harr⟩
theorem stepR_scope {b : Frame} {a : Act} {k : List Item} {cs : List Frame} {w : World} {c : Code} : step P (lone (b.atR a (.code (.scope c) :: k)) cs w) = .next (lone (b.atR a (.code c :: .inScope c :: k)) cs w) :=
  step_lone_go (by simp [stepG, stepG.exec, Frame.atR])
theorem stepR_inScope {b : Frame} {a : Act} {k : List Item} {cs : List Frame} {w : World} {c : Code} : step P (lone (b.atR a (.inScope c :: k)) cs w) = .next (lone (b.atR a k) cs w) :=
  step_lone_go (by simp [stepG, stepG.exec, Frame.atR])
theorem wpR_scope {c : Code} (h : wpR ro P c (Exit.noGoto Q) a w) : wpR ro P (.scope c) Q a w := by
  intro b k cs hro hb
  obtain ⟨e, a₁, w₁, hq, harr⟩ := h b (.inScope c :: k) cs hro hb
  cases e with
  | normal => exact ⟨.normal, a₁, w₁, hq, .head trivial stepR_scope (StepsIn.trans harr (.one trivial stepR_inScope))⟩
  | exit id =>
    exact ⟨.exit id, a₁, w₁, hq, fun k' hk => .head trivial stepR_scope (harr.1 k' (by simp [exitTo, hk])), fun hr' hk => let ⟨k₁, h1, h2⟩ := harr.2 hr' (by simp [exitTo, hk]); ⟨k₁, h1, .head trivial stepR_scope h2⟩⟩
  | goto l => exact hq.elim
  | ret => exact ⟨_, a₁, w₁, hq, .of_steps (.one trivial stepR_scope) harr⟩
  | panic ch => exact ⟨_, a₁, w₁, hq, .of_steps (.one trivial stepR_scope) harr⟩
  | outgrown => exact ⟨_, a₁, w₁, hq, .of_steps (.one trivial stepR_scope) harr⟩

/-- How a round ends. -/
def roundEnd (P : Program) (l : Nat) (R : Ending → World → Prop) : Exit → Act → World → Prop
  | .normal, _, w => ∃ v w', (Instr.endRound l none).run P w = .ok v w' ∧ R (.returned v) w'
  | .panic ch, a, w => a.defers = [] ∧ R (.panicked ch) w
  | _, _, _ => False
theorem step_raise {fr c : Frame} {cs : List Frame} {w : World} {ch : List PanicEntry} (hm : fr.mode = .panicking ch) (hd : fr.defers = []) (hf : ∃ fn, P.funcs[fr.fn]? = some fn) : step P (lone fr (c :: cs) w) = .next (lone (c.raise ch) cs w) :=
  step_leave_panicked (chain := ch) ⟨hm, hd, hf⟩
/-- A round, out of its body's walk. -/
theorem roundIn_of_wpR {l : Nat} {f : FuncId} {tmps : Array Value} {assign body : Code} {w : World} {R : Ending → World → Prop} (hf : ∃ fn, P.funcs[f]? = some fn)
    (h : wpR (some l) P assign (Exit.then (fun a₁ w₁ => ∃ w₂, (Instr.beginRound l).run P w₁ = .ok () w₂ ∧ wpR (some l) P body (roundEnd P l R) a₁ w₂) (fun _ _ _ => False)) { tmps := tmps, defers := [] } w) :
    RoundIn Fence.wide 0 P l f tmps assign body w R := by
  refine ⟨trivial, fun c cs _ => ?_⟩
  let b : Frame := { (default : Frame) with fn := f, kind := .normal, roundOf := some l }
  have hb0 : Frame.round l f tmps assign body .normal = b.atR { tmps := tmps, defers := [] } [.code assign, .beginRound, .code body] := by
    simp [Frame.round, Frame.atR, b]
  obtain ⟨e, a₁, w₁, hq, harr⟩ := h b [.beginRound, .code body] (c :: cs) rfl hf
  rw [← hb0] at harr
  cases e with
  | normal =>
    obtain ⟨w₂, hbr, hbody⟩ := hq
    have s1 : StepsIn Tr P (lone (b.atR a₁ [.beginRound, .code body]) (c :: cs) w₁) (lone (b.atR a₁ [.code body]) (c :: cs) w₂) := .one trivial (stepR_beginRound rfl hbr)
    obtain ⟨e₂, a₂, w₃, hq₂, harr₂⟩ := hbody b [] (c :: cs) rfl hf
    cases e₂ with
    | normal =>
      obtain ⟨v, w₄, hend, hR⟩ := hq₂
      exact ⟨.returned v, w₄, hR, stepsIn_wide.2 ((StepsIn.trans harr s1).trans (StepsIn.trans harr₂ (.one trivial (stepR_round_end rfl rfl hend)))).steps⟩
    | panic ch =>
      obtain ⟨hd, hR⟩ := hq₂
      obtain ⟨todo, hs⟩ := harr₂
      exact ⟨.panicked ch, w₃, hR, stepsIn_wide.2 ((StepsIn.trans harr s1).trans (StepsIn.trans hs (.one trivial (step_raise (ch := ch) rfl hd hf)))).steps⟩
    | _ => exact hq₂.elim
  | _ => exact hq.elim

/-- A range over a function. -/
theorem wpR_rangeFunc {g : Operand} {ps : Array Tmp} {assign body : Code}
    (h : ∀ fn, (∃ fc, P.funcs[fn]? = some fc) → ∃ (l : Nat) (mark : List Deferred) (w₁ : World) (d : Deferred) (w₁' : World) (f : FuncId) (args : Array Value) (w₂ : World),
      (Instr.enterLoop fn a.tmps ps assign body none).run P w = .ok (l, mark) w₁ ∧ (resolve a.eval (rangeCall g l) 0).run P w₁ = .ok d w₁' ∧ (invoke d.target d.args).run P w₁' = .ok (.enter f args) w₂ ∧
      Calls P f args w₂ fun
        | .returned _, w₃ => ∃ w₄, (Instr.endLoop l).run P w₃ = .ok none w₄ ∧ Q .normal { a with defers := mark ++ a.defers } w₄
        | .panicked chain, w₃ => Q (.panic chain) { a with defers := mark ++ a.defers } w₃
        | .outgrown, _ => False) :
    wpR none P (.rangeFunc g ps assign body) Q a w := by
  intro b k cs hro hb
  obtain ⟨l, mark, w₁, d, w₁', f, args, w₂, he, hres, hinv, hcall⟩ := h b.fn hb
  rw [← hro] at he
  have henter := stepR_rangeFunc (P := P) (b := b) (a := a) (k := k) (cs := cs) (w := w) he hres hinv
  obtain ⟨e, w₃, fr, hR, hsteps, hfn, hleave⟩ := hcall (b.atR { a with defers := mark ++ a.defers } (.inRangeFunc l :: k) :: cs)
  cases e with
  | outgrown => exact hR.elim
  | returned v =>
    obtain ⟨w₄, hend, hj⟩ := hR
    have s2 : StepsIn Tr P (lone (Frame.enter P f args .normal) (b.atR { a with defers := mark ++ a.defers } (.inRangeFunc l :: k) :: cs) w₂) (lone fr (b.atR { a with defers := mark ++ a.defers } (.inRangeFunc l :: k) :: cs) w₃) := steps_iff.1 hsteps
    refine ⟨.normal, _, w₄, hj, .head trivial henter (s2.trans (.head trivial ?_ (.one trivial (stepR_endRangeFunc (jump := none) hend))))⟩
    rw [← finish_atR_inRangeFunc l v]; exact step_leave_returned hleave
  | panicked chain =>
    have s2 : StepsIn Tr P (lone (Frame.enter P f args .normal) (b.atR { a with defers := mark ++ a.defers } (.inRangeFunc l :: k) :: cs) w₂) (lone fr (b.atR { a with defers := mark ++ a.defers } (.inRangeFunc l :: k) :: cs) w₃) := steps_iff.1 hsteps
    refine ⟨.panic chain, _, w₃, hR, .inRangeFunc l :: k, .head trivial henter (s2.trans (.one trivial ?_))⟩
    rw [← Frame.raise_atR]; exact step_leave_panicked hleave

/-- A function's contract out of its body's walk. -/
theorem calls_of_wpR {f : FuncId} {fn : Func} {c : Code} {args : Array Value} {w : World} {R : Ending → World → Prop} (hf : P.funcs[f]? = some fn) (hb : fn.body = some c)
    (h : wpR none P c (bodyPostM Fence.wide 0 P fn R) { tmps := args ++ Array.replicate (fn.ntmps - args.size) undef, defers := [] } w) : Calls P f args w R := by
  refine (callsIn_wide (n := 0)).1 ⟨trivial, fun cs hr => ?_⟩
  let b : Frame := { (default : Frame) with fn := f, kind := .normal, roundOf := none }
  have henter : Frame.enter P f args .normal = b.atR { tmps := args ++ Array.replicate (fn.ntmps - args.size) undef, defers := [] } [.code c] := by
    simp [Frame.enter, Frame.atR, hf, hb, b]
  obtain ⟨e, a', w', hq, harr⟩ := h b [] cs rfl ⟨fn, hf⟩
  rw [← henter] at harr
  cases e with
  | normal =>
    obtain ⟨e', w'', fr', hR, hs, hfn, hl⟩ := leaves_stepsInM a'.defers .returning w' { b.atR a' [] with mode := .returning } cs rfl rfl rfl hf rfl trivial (room_wide _) hq
    exact ⟨e', w'', fr', hR, ComesIn.of_steps (stepsIn_wide.2 (StepsIn.trans harr (.one trivial (stepR_end rfl))).steps) hs, hfn, hl⟩
  | ret =>
    obtain ⟨todo, hs₀⟩ := harr.1 rfl
    obtain ⟨e', w'', fr', hR, hs, hfn, hl⟩ := leaves_stepsInM a'.defers .returning w' { b.atR a' todo with mode := .returning } cs rfl rfl rfl hf rfl trivial (room_wide _) hq
    exact ⟨e', w'', fr', hR, ComesIn.of_steps (stepsIn_wide.2 hs₀.steps) hs, hfn, hl⟩
  | panic chain =>
    obtain ⟨todo, hs₀⟩ := harr
    obtain ⟨e', w'', fr', hR, hs, hfn, hl⟩ := leaves_stepsInM a'.defers (.panicking chain) w' { b.atR a' todo with mode := .panicking chain } cs rfl rfl rfl hf rfl trivial (room_wide _) hq
    exact ⟨e', w'', fr', hR, ComesIn.of_steps (stepsIn_wide.2 hs₀.steps) hs, hfn, hl⟩
  | exit id => exact hq.elim
  | goto l => exact hq.elim
  | outgrown => exact ⟨.outgrown, w', b, hq, harr.resolve_left (by simp [b]), rfl, trivial⟩
end
end Go.Pe
