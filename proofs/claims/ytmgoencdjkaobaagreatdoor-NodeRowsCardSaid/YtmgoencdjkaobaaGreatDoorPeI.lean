/- How compact code is walked: rules by the shape of the code, and what is worked out. No program in sight; no conditions. -/
import Derived.Test.YtmgoencdjkaobaaGreatDoorPeH
import Derived.KernelRfl
set_option linter.unusedVariables false
set_option linter.unusedSimpArgs false
namespace Go.Pe

/-- A function as it is compiled: how many temporaries, its results, its code. -/
def sight (P : Program) (f : FuncId) (hint : AC) : Option (Nat × List RV × AC) :=
  match P.funcs[f]? with
  | some fn => match fn.body with
    | some c => match comp P fn.ntmps c hint, resC P fn.results.toList with
      | some ac, some rs => some (fn.ntmps, rs, ac)
      | _, _ => none
    | none => none
  | none => none

section
variable [Glob] {P : Program} {Q : AEx → St → Prop} {s : St}
omit [Glob] in
theorem sight_spec {f nt : Nat} {hint ac : AC} {rs : List RV} (h : sight P f hint = some (nt, rs, ac)) : ∃ fn c, P.funcs[f]? = some fn ∧ fn.body = some c ∧ fn.ntmps = nt ∧ resC P fn.results.toList = some rs ∧ comp P nt c hint = some ac := by
  unfold sight at h
  split at h
  · rename_i fn h1
    split at h
    · rename_i c h2
      split at h
      · rename_i h3 h4
        simp only [Option.some.injEq, Prod.mk.injEq] at h
        obtain ⟨rfl, rfl, rfl⟩ := h
        exact ⟨fn, c, h1, h2, rfl, h4, h3⟩
      · cases h
    · cases h
  · cases h
theorem V_of [Top] {f nt : Nat} {hint ac : AC} {rs : List RV} {args : List AV} {o : Out} (h : sight P f hint = some (nt, rs, ac)) (hn : args.length ≤ nt) (ha : pureL args = true) (ho : o.pure = true) (k : Aw P ac (retV rs o) ⟨nt, 0, argT 0 args, []⟩) : V P f args o := by
  obtain ⟨fn, c, h1, h2, rfl, h4, h3⟩ := sight_spec h
  exact V_of_aw h1 h2 h4 h3 hn ha ho k
theorem VH_of {f nt : Nat} {hint ac : AC} {rs : List RV} {args : List AV} {h : List AObj} {R : Out → List AObj → Prop} (hl : sight P f hint = some (nt, rs, ac)) (hn : args.length ≤ nt) (k : Aw P ac (retQ rs h.length R) ⟨nt, h.length, argT 0 args, h⟩) : VH P f args h R := by
  obtain ⟨fn, c, h1, h2, rfl, h4, h3⟩ := sight_spec hl
  exact VH_of_aw h1 h2 h4 h3 hn k

theorem Aw_mono {P : Program} : ∀ {c : AC} {Q Q' : AEx → St → Prop} {s : St}, (∀ e s, Q e s → Q' e s) → Aw P c Q s → Aw P c Q' s
  | .skip, Q, Q', s, h, k => h _ _ k
  | .reg l outs, Q, Q', s, h, k => run_mono2 (fun v o k => h _ _ k) (fun s' k => h _ _ k) k
  | .seq a b, Q, Q', s, h, k => Aw_mono (c := a) (fun e s' q => by
    cases e with
    | norm => exact Aw_mono (c := b) h q
    | _ => exact h _ _ q) k
  | .cond c l1 a l2 b, Q, Q', s, h, k => by
    simp only [Aw] at k ⊢
    split at k
    · exact ⟨fun e => Aw_mono (c := a) h (k.1 e), fun e => Aw_mono (c := b) h (k.2 e)⟩
    · exact k
  | .block id a, Q, Q', s, h, k => Aw_mono (c := a) (fun e s' q => by
    cases e with
    | exit i =>
      simp only [blockQ] at q ⊢
      split
      · rename_i e; rw [if_pos e] at q; exact h _ _ q
      · rename_i e; rw [if_neg e] at q; exact h _ _ q
    | _ => exact h _ _ q) k
  | .loop outs a, Q, Q', s, h, k => by
    obtain ⟨I, n, s0, l0, h0, hr⟩ := k
    refine ⟨I, n, s0, l0, h0, fun m s' i => Aw_mono (c := a) (fun e s2 q => ?_) (hr m s' i)⟩
    cases e with
    | norm => exact q
    | _ => exact h _ _ q
  | .exit id outs, Q, Q', s, h, k => h _ _ k
  | .ret outs, Q, Q', s, h, k => h _ _ k
  | .scope a, Q, Q', s, h, k => Aw_mono (c := a) h k
  | .label _, Q, Q', s, h, k => h _ _ k
  | .regp _ l outs, Q, Q', s, h, k => run_mono2 (fun v o k => h _ _ k) (fun s' k => h _ _ k) k
  | .rng outs g ps a b, Q, Q', s, h, k => by
    simp only [Aw] at k ⊢
    unfold rngA at k ⊢
    split at k
    · rename_i gf cap hv
      refine ⟨k.1, fun c hp => @VH.mono (Glob.at P c) P _ _ _ _ _ (k.2 c hp) ?_⟩
      rintro o h' ⟨q1, q2⟩
      cases o with
      | ret v => exact ⟨q1, h _ _ q2⟩
      | pan v => exact ⟨q1, q2.1, h _ _ q2.2⟩
    · exact k

theorem aw_seq {a b : AC} (h : Aw P a (thenQ (Aw P b Q) Q) s) : Aw P (.seq a b) Q s := h
theorem aw_reg {l : List AStp} {outs : List Nat} (h : ∀ (K : St → Prop) (E : AV → List AObj → Prop), (∀ s', Q .norm s' → K s') → (∀ v h, Q (.pan v) ⟨0, 0, [], h⟩ → E v h) → run P E l s fun s' => K (proj outs s')) : Aw P (.reg l outs) Q s :=
  h _ _ (fun _ h => h) fun _ _ h => h
theorem aw_cond {t : Nat} {b : Bool} {l1 l2 : List Nat} {x y : AC} (hc : lk s.tm t = .bool b) (h1 : b = true → Aw P x Q (proj l1 s)) (h2 : b = false → Aw P y Q (proj l2 s)) : Aw P (.cond (.t t) l1 x l2 y) Q s := by
  simp only [Aw, ev, hc]
  exact ⟨h1, h2⟩
theorem aw_block {id : Nat} {a : AC} (h : Aw P a (blockQ id Q) s) : Aw P (.block id a) Q s := h
theorem aw_loop0 {outs : List Nat} {a : AC} (I : Nat → St → Prop) (n : Nat) (s0 : St) (l0 : Le (proj outs s) s0) (h0 : I n s0) (hr : ∀ m s, I m s → Aw P a (thenQ (fun s' => ∃ m', m' < m ∧ I m' (proj outs s')) Q) s) : Aw P (.loop outs a) Q s := by
  refine ⟨I, n, s0, l0, h0, fun m s i => Aw_mono (fun e s' q => ?_) (hr m s i)⟩
  cases e with
  | norm => obtain ⟨m', h1, h2⟩ := q; exact ⟨_, m', Le.refl _, h1, h2⟩
  | _ => exact q
theorem aw_loop {outs : List Nat} {a : AC} (I : Nat → St → Prop) (n : Nat) (h0 : I n (proj outs s)) (hr : ∀ m s, I m s → Aw P a (thenQ (fun s' => ∃ m', m' < m ∧ I m' (proj outs s')) Q) s) : Aw P (.loop outs a) Q s :=
  aw_loop0 I n _ (Le.refl _) h0 hr
/-- A loop by an index that rises. -/
theorem aw_index {outs : List Nat} {a : AC} {nt b : Nat} {tm : List (Nat × AV)} {h : List AObj} {σ : Type} (n : Nat) (J : Nat → σ → Prop) (T : Nat → σ → List (Nat × AV)) (H : Nat → σ → List AObj) (v0 : σ) (l0 : Le ⟨nt, b, outs.map fun t => (t, lk tm t), h⟩ ⟨nt, b, T 0 v0, H 0 v0⟩) (h0 : J 0 v0)
    (hr : ∀ i v, i ≤ n → J i v → Aw P a (thenQ (fun s' => ∃ i' v', (i < i' ∧ i' ≤ n) ∧ J i' v' ∧ proj outs s' = ⟨nt, b, T i' v', H i' v'⟩) Q) ⟨nt, b, T i v, H i v⟩) : Aw P (.loop outs a) Q ⟨nt, b, tm, h⟩ := by
  refine aw_loop0 (fun m s => ∃ i v, i ≤ n ∧ m = n - i ∧ J i v ∧ s = ⟨nt, b, T i v, H i v⟩) n _ l0 ⟨0, v0, Nat.zero_le _, rfl, h0, rfl⟩ ?_
  rintro m s ⟨i, v, hi, rfl, hj, rfl⟩
  refine Aw_mono (fun e s' q => ?_) (hr i v hi hj)
  cases e with
  | norm => obtain ⟨i', v', h1, h2, h3⟩ := q; exact ⟨n - i', by omega, i', v', h1.2, rfl, h2, h3⟩
  | _ => exact q
/-- The same, where nothing is kept but the index. -/
theorem aw_for {outs : List Nat} {a : AC} {nt b : Nat} {tm : List (Nat × AV)} {h : List AObj} (n : Nat) (J : Nat → Prop) (T : Nat → List (Nat × AV)) (l0 : (outs.map fun t => (t, lk tm t)) = T 0) (h0 : J 0)
    (hr : ∀ i, i ≤ n → J i → Aw P a (thenQ (fun s' => ∃ i', (i < i' ∧ i' ≤ n) ∧ J i' ∧ proj outs s' = ⟨nt, b, T i', h⟩) Q) ⟨nt, b, T i, h⟩) : Aw P (.loop outs a) Q ⟨nt, b, tm, h⟩ := by
  refine aw_index n (fun i (_ : Unit) => J i) (fun i _ => T i) (fun _ _ => h) () (by rw [l0]; exact Le.refl _) h0 fun i _ hi hj => Aw_mono (fun e s' q => ?_) (hr i hi hj)
  cases e with
  | norm => obtain ⟨i', h1, h2, h3⟩ := q; exact ⟨i', (), h1, h2, h3⟩
  | _ => exact q
theorem aw_skip (h : Q .norm s) : Aw P .skip Q s := h
theorem aw_exit {id : Nat} {outs : List Nat} (h : Q (.exit id) (proj outs s)) : Aw P (.exit id outs) Q s := h
theorem aw_ret {outs : List Nat} (h : Q .ret (proj outs s)) : Aw P (.ret outs) Q s := h
end

end Go.Pe
