/- A loop over strings.SplitSeq. The conditions stand in each. -/
import Derived.Test.YtmgoencdjkaobaaGreatDoorNpC4
set_option linter.unusedVariables false
set_option linter.unusedSimpArgs false
namespace Go.Proofs.YtmgoencdjkaobaaGreatDoor
open Go Go.Pe
attribute [local irreducible] Aw
/-- What SplitSeq keeps. -/
def bx (s : Str) (c : UInt8) : List AObj := [⟨0, 1, 9, false, [.str s]⟩, ⟨0, 1, 9, false, [.str [c]]⟩, ⟨0, 1, 3, false, [.int .i64 0]⟩]
def okH (h : List AObj) : Prop := noYH h = true ∧ ∀ ob ∈ h, ob.pur = true ∨ refsL ob.xs ≤ h.length
section
variable {n : Nat} {pre : List AObj} (hn : pre.length = n) (s : Str) (c : UInt8) (post : List AObj)
include hn
theorem get0 : (pre ++ (bx s c ++ post))[n]? = some ⟨0, 1, 9, false, [.str s]⟩ := by subst hn; simp [bx]
theorem get1 : (pre ++ (bx s c ++ post))[n + 1]? = some ⟨0, 1, 9, false, [.str [c]]⟩ := by subst hn; simp [bx]
theorem get2 : (pre ++ (bx s c ++ post))[n + 2]? = some ⟨0, 1, 3, false, [.int .i64 0]⟩ := by subst hn; simp [bx]
theorem set0 (t : Str) : (pre ++ (bx s c ++ post)).set n ⟨0, 1, 9, false, [.str t]⟩ = pre ++ (bx t c ++ post) := by subst hn; simp [bx]
end
/-- How the walk ends with all objects kept. -/
theorem endQ_all {base : Nat} {K : Out → List AObj → Prop} {mk : AV → Out} {h : List AObj} {v : AV} (hb : base ≤ h.length) (ho : okH h) (hv : frz h.length h v = v) (hr : v.refs = 0) (hK : K (mk v) h) : endQ base K mk h v :=
  ⟨h.length, ⟨hb, Nat.le_refl _, by simpa using ho.2, by rw [hv, hr]; exact Nat.zero_le _⟩, by rw [hv, List.take_length]; exact hK⟩
theorem w172 [G : Glob] (c : UInt8) (n : Nat) (J : Str → List AObj → List AObj → Prop) (K : Out → List AObj → Prop)
    (hi : ∀ s : Str, V Tryz.prog 150 [.str s, .str [c]] (.ret (.int .i64 (Lib.indexByte s c))))
    (hJ : ∀ s pre post, J s pre post → pre.length = n ∧ okH (pre ++ (bx s c ++ post)) ∧ s.length < 2 ^ 48)
    (hstep : ∀ s pre post (i : Nat), J s pre post → Lib.indexByte s c = i → VY Tryz.prog [.str (s.take i)] (pre ++ (bx s c ++ post)) fun o h' => match o with
      | .ret v => v = .bool true ∧ ∃ pre' post', h' = pre' ++ (bx s c ++ post') ∧ post.length ≤ post'.length ∧ pre'.length = n ∧ J (s.drop (i + 1)) pre' post'
      | .pan v => (pre ++ (bx s c ++ post)).length ≤ h'.length ∧ okH h' ∧ (∃ m, v = stopV m) ∧ K (.pan v) h')
    (hlast : ∀ s pre post, J s pre post → Lib.indexByte s c = -1 → VY Tryz.prog [.str s] (pre ++ (bx s c ++ post)) fun o h' => (pre ++ (bx s c ++ post)).length ≤ h'.length ∧ okH h' ∧ match o with
      | .ret v => K (.ret (.tup [])) h'
      | .pan v => (∃ m, v = stopV m) ∧ K (.pan v) h') :
    ∀ s pre post, J s pre post → VH Tryz.prog 172 [.yld, .ptr (n + 1) 0 0 0, .ptr n 0 0 0, .ptr (n + 2) 0 0 0] (pre ++ (bx s c ++ post)) K := by
  intro s pre post j
  obtain ⟨hn, hok, hs⟩ := hJ s pre post j
  refine VH_of p172 (by simp) ?_
  unfold c172
  simp -implicitDefEqProofs [get0 hn, get1 hn, get2 hn]
  refine aw_loop0 (fun m st => ∃ s1 pre1 post1, J s1 pre1 post1 ∧ post.length ≤ post1.length ∧ s1.length = m ∧ st = ⟨52, (pre ++ (bx s c ++ post)).length, [(0, .yld), (1, .ptr (n + 1) 0 0 0), (2, .ptr n 0 0 0), (3, .ptr (n + 2) 0 0 0)], pre1 ++ (bx s1 c ++ post1)⟩) s.length _ (Le.refl _) ⟨s, pre, post, j, Nat.le_refl _, rfl, by simp⟩ ?_
  rintro m st ⟨s1, pre1, post1, j1, hp1, rfl, rfl⟩
  obtain ⟨hn1, hok1, hs1⟩ := hJ s1 pre1 post1 j1
  simp -implicitDefEqProofs [get0 hn1, get1 hn1, get2 hn1]
  refine callA_of (hi s1) ?_
  simp -implicitDefEqProofs [get0 hn1, get1 hn1, get2 hn1]
  have hlen : ∀ h' : List AObj, (pre1 ++ (bx s1 c ++ post1)).length ≤ h'.length → pre.length + ((bx s c).length + post.length) ≤ h'.length := by
    intro h' q; simp [bx] at q ⊢; omega
  rcases indexByte_cut c s1 with ⟨h1, _⟩ | ⟨i, h1, h2, _⟩
  · rw [h1]
    refine ⟨fun _ => yldA_of (hlast s1 pre1 post1 j1 h1) ?_ ?_, fun q => absurd q (by decide)⟩
    · rintro v h' ⟨q1, q2, q3⟩
      simp -implicitDefEqProofs [retQ, resK]
      exact endQ_all (hlen h' q1) q2 (by simp [tupV, frz, frzL]) (by simp [tupV, AV.refs, refsL]) q3
    · rintro v h' ⟨q1, q2, ⟨m, rfl⟩, q3⟩
      simp -implicitDefEqProofs [retQ, resK]
      exact endQ_all (hlen h' q1) q2 (by simp [stopV, frz, frzL]) (by simp [stopV, AV.refs, refsL]) q3
  · have hw : IntKind.i64.wrap (i : Int) = i := w64 (by omega)
    rw [h1, hw]
    refine ⟨fun q => absurd q (by omega), fun _ => ⟨⟨by omega, by omega⟩, yldA_of (hstep s1 pre1 post1 i j1 h1) ?_ ?_⟩⟩
    · rintro v h' ⟨rfl, pre2, post2, rfl, q1, q2, q3⟩
      have hw2 : IntKind.i64.wrap ((i : Int) + 1) = ((i + 1 : Nat) : Int) := step64 h2 hs1
      simp -implicitDefEqProofs [get0 q2, get1 q2]
      rw [hw2, Int.toNat_natCast]
      exact ⟨⟨by omega, by omega⟩, (s1.drop (i + 1)).length, by simp; omega, s1.drop (i + 1), pre2, post2, q3, by omega, rfl, set0 q2 s1 c post2 _⟩
    · rintro v h' ⟨q1, q2, ⟨m, rfl⟩, q3⟩
      simp -implicitDefEqProofs [retQ, resK]
      exact endQ_all (hlen h' q1) q2 (by simp [stopV, frz, frzL]) (by simp [stopV, AV.refs, refsL]) q3
/-- A loop over the pieces of a text: J: what holds ahead of the pieces that are left, of the objects laid ahead of SplitSeq's and behind. -/
theorem rng_split {W : List AV → List AObj → (Out → List AObj → Prop) → Prop} {Q : AEx → St → Prop} {nt b : Nat} {tm : List (Nat × AV)} (c : UInt8) (n : Nat) (J : List Str → List AObj → List AObj → Prop) (s : Str) (pre post : List AObj)
    (hs : s.length < 2 ^ 48) (j : J (splitC c s) pre post) (hJ : ∀ L pre post, J L pre post → pre.length = n ∧ ∀ t, okH (pre ++ (bx t c ++ post)))
    (hbody : ∀ t p r pre post, p.length ≤ s.length → J (p :: r) pre post → W [.str p] (pre ++ (bx t c ++ post)) fun o h' => match o with
      | .ret v => v = .bool true ∧ ∃ pre' post', h' = pre' ++ (bx t c ++ post') ∧ post.length ≤ post'.length ∧ J r pre' post'
      | .pan v => (pre ++ (bx t c ++ post)).length ≤ h'.length ∧ okH h' ∧ (∃ m, v = stopV m) ∧ Q (.pan v) ⟨0, 0, [], h'⟩)
    (hR : ∀ {args h} {R R' : Out → List AObj → Prop}, W args h R → (∀ o h', R o h' → R' o h') → W args h R')
    (hend : ∀ t pre post, J [] pre post → Q .norm ⟨nt, b, tm, pre ++ (bx t c ++ post)⟩) :
    rngA Tryz.prog 1 W (rngK Q nt b tm) (pre ++ (bx s c ++ post)) (.fn 172 [.ptr (n + 1) 0 0 0, .ptr n 0 0 0, .ptr (n + 2) 0 0 0]) := by
  unfold rngA
  refine ⟨⟨Top.top, by kernel_rfl⟩, fun c' hp => ?_⟩
  refine w172 (G := Glob.at Tryz.prog c') c n (fun t pre post => J (splitC c t) pre post ∧ t.length ≤ s.length) _ (fun t => (v_index t c).at Top.top (by simp) rfl c') ?_ ?_ ?_ s pre post ⟨j, Nat.le_refl _⟩
  · rintro t pre post ⟨h1, h2⟩
    have := hJ _ _ _ h1
    exact ⟨this.1, this.2 t, by omega⟩
  · rintro t pre post i ⟨h1, h2⟩ h3
    have h0 := hJ _ _ _ h1
    rcases indexByte_cut c t with ⟨e1, _⟩ | ⟨k, e1, e2, _, e3, _⟩
    · omega
    · obtain rfl : k = i := by omega
      rw [e3] at h1
      refine hp _ _ _ (by simp) rfl (h0.2 t).1 ?_
      have hb := hbody t (t.take k) (splitC c (t.drop (k + 1))) pre post (by simp; omega) h1
      refine hR hb ?_
      intro o h' q
      cases o with
      | ret v => obtain ⟨rfl, pre', post', rfl, q1, q2⟩ := q; exact ⟨rfl, pre', post', rfl, q1, (hJ _ _ _ q2).1, q2, by simp; omega⟩
      | pan v => obtain ⟨q1, q2, ⟨m, rfl⟩, q4⟩ := q; exact ⟨q1, q2, ⟨m, rfl⟩, q2.1, by simp [stopV], q4⟩
  · rintro t pre post ⟨h1, h2⟩ h3
    have h0 := hJ _ _ _ h1
    rcases indexByte_cut c t with ⟨_, _, e3, _⟩ | ⟨k, e1, _⟩
    · rw [e3] at h1
      refine hp _ _ _ (by simp) rfl (h0.2 t).1 ?_
      refine hR (hbody t t [] pre post h2 h1) ?_
      intro o h' q
      cases o with
      | ret v =>
        obtain ⟨rfl, pre', post', rfl, q1, q2⟩ := q
        have hl := hJ _ _ _ q2
        refine ⟨by simp [bx] at q1 ⊢; have := h0.1; have := hl.1; omega, hl.2 t, (hl.2 t).1, hend t pre' post' q2⟩
      | pan v => obtain ⟨q1, q2, ⟨m, rfl⟩, q4⟩ := q; exact ⟨q1, q2, ⟨m, rfl⟩, q2.1, by simp [stopV], q4⟩
    · omega
theorem W_mono {P : Program} {a b : AC} {m k : Nat} {s : St} {R R' : Out → List AObj → Prop} (h : Aw P a (rngE m (Aw P b (endY k R))) s) (hr : ∀ o h, R o h → R' o h) : Aw P a (rngE m (Aw P b (endY k R'))) s :=
  Aw_mono (fun e s q => ⟨q.1, q.2.1, Aw_mono (fun e s q => by cases e with
    | norm => exact hr _ _ q
    | pan v => exact hr _ _ q
    | _ => exact q) q.2.2⟩) h
/-- The same, as a walk meets it. -/
theorem aw_split {Q : AEx → St → Prop} {nt bs : Nat} {tm : List (Nat × AV)} {outs : List Nat} {g : Opd} {q : Nat} {a b : AC} (c : UInt8) (n : Nat) (J : List Str → List AObj → List AObj → Prop) (s : Str) (pre post : List AObj)
    (hs : s.length < 2 ^ 48) (j : J (splitC c s) pre post) (hJ : ∀ L pre post, J L pre post → pre.length = n ∧ ∀ t, okH (pre ++ (bx t c ++ post)))
    (hg : ev (outs.map fun t => (t, lk tm t)) g = .fn 172 [.ptr (n + 1) 0 0 0, .ptr n 0 0 0, .ptr (n + 2) 0 0 0])
    (hbody : ∀ (t p : Str) (r : List Str) (pre post : List AObj) (R : Out → List AObj → Prop) (m : Nat), p.length ≤ s.length → J (p :: r) pre post →
      (∀ pre' post', post.length ≤ post'.length → J r pre' post' → R (.ret (.bool true)) (pre' ++ (bx t c ++ post'))) →
      (∀ h' k, (pre ++ (bx t c ++ post)).length ≤ h'.length → okH h' → Q (.pan (stopV k)) ⟨0, 0, [], h'⟩ → R (.pan (stopV k)) h') →
      m = (pre ++ (bx t c ++ post)).length →
      Aw Tryz.prog a (rngE m (Aw Tryz.prog b (endY m R))) ⟨nt, m, (q, .str p) :: outs.map fun t => (t, lk tm t), pre ++ (bx t c ++ post)⟩)
    (hend : ∀ t pre post, J [] pre post → Q .norm ⟨nt, bs, outs.map fun t => (t, lk tm t), pre ++ (bx t c ++ post)⟩) : Aw Tryz.prog (.rng outs g [q] a b) Q ⟨nt, bs, tm, pre ++ (bx s c ++ post)⟩ := by
  rw [Aw_rng, hg]
  refine rng_split c n J s pre post hs j hJ ?_ (fun h hr => W_mono h hr) hend
  intro t p r pre post hp hj
  refine hbody t p r pre post _ _ hp hj ?_ ?_ rfl
  · intro pre' post' h1 h2; exact ⟨rfl, pre', post', rfl, h1, h2⟩
  · intro h' k h1 h2 h3; exact ⟨h1, h2, ⟨k, rfl⟩, h3⟩
end Go.Proofs.YtmgoencdjkaobaaGreatDoor
